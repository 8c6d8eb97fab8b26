/-
  Plain: a function of a fine unit stays fine when tidied (FunC.done).
-/
import Derived.Test.YtgjjhadbjmcnpaaGreatDoorJTidF
set_option maxRecDepth 100000
set_option maxHeartbeats 16000000
namespace Go.Proofs.YtgjjhadbjmcnpaaGreatDoor
open Go.RowKit

def XD (f:FunL) (b t i:Nat):List PhiL:=(atF f i).phis.map fun p=>if (i:Int)∈(atF f t).fin.to then { p with src:=Q6 (insN f i) t b p.src } else p
theorem vD (f:FunL) (b t:Nat):(qP f t b).blocks.length=f.blocks.length:=by simp [qP]
theorem v8 {f:FunL} {b t i:Nat} (hi:i<f.blocks.length):atF (qP f t b) i={ phis:=XD f b t i,list:=(atF f i).list,fin:=(atF f i).fin }:=by
 have e0:atF (qP f t b) i=(fun (i:Nat) (x:BlkL)=>if (i:Int)∈(atF f t).fin.to then { x with phis:=x.phis.map fun p=>{ p with src:=Q6 (insN f i) t b p.src } } else x) i f.blocks[i]:=by
  show (f.blocks.mapIdx _).getD i ku=_
  rw [List.getD_eq_getElem?_getD,List.getElem?_mapIdx,List.getElem?_eq_getElem hi]
  rfl
 rw [e0]
 unfold XD
 rw [qL hi]
 by_cases h:(i:Int)∈(atF f t).fin.to
 ·simp only [h,if_true]
 simp only [h,if_false]
 have e:(f.blocks[i].phis.map fun p=>p)=f.blocks[i].phis:=List.map_id' _
 rw [e]
theorem qM (f:FunL) (b t:Nat):(x8 f b t).blocks.length=f.blocks.length:=by simp [x8,vD]
theorem vd {f:FunL} {b t i:Nat} (hi:i<f.blocks.length) (hb:b<f.blocks.length) (ht:t<f.blocks.length):atF (x8 f b t) i=if i=t then ku else { phis:=XD f b t i,list:=if i=b then (atF f b).list++(atF f t).list else (atF f i).list,fin:=if i=b then (atF f t).fin else (atF f i).fin }:=by
 have hlt:i<(qP f t b).blocks.length:=by rw [vD];exact hi
 show (((qP f t b).blocks.set b _).set t ku).getD i ku=_
 rw [List.getD_eq_getElem?_getD,List.getElem?_set,List.getElem?_set,List.length_set,vD]
 by_cases e:i=t
 ·rw [if_pos e.symm,if_pos e,if_pos ht];rfl
 rw [if_neg (fun g=>e g.symm),if_neg e]
 by_cases e2:i=b
 ·subst e2
  rw [if_pos rfl,if_pos hb]
  simp only [if_true,v8 hb,v8 ht,Option.getD_some]
 rw [if_neg (fun g=>e2 g.symm)]
 simp only [if_neg e2]
 rw [←v8 (b:=b) (t:=t) hi]
 unfold atF
 rw [List.getD_eq_getElem?_getD]
theorem kx (f:FunL) {i:Nat}:i<f.blocks.length→tosB f.blocks i=(atF f i).fin.to:=fun h=>by rw [zF h,qL h]
theorem vE {f:FunL} {b t:Nat} (h:MayJ f b t) {i:Nat} (hi:i<f.blocks.length):tosB (x8 f b t).blocks i=if i=t then [] else if i=b then tosB f.blocks t else tosB f.blocks i:=by
 rw [kx _ (by rw [qM];exact hi),vd hi h.hb h.ht]
 by_cases e:i=t
 ·rw [if_pos e,if_pos e];rfl
 rw [if_neg e,if_neg e]
 by_cases e2:i=b
 ·simp only [if_pos e2]
  rw [kx f h.ht]
 simp only [if_neg e2]
 rw [kx f hi]

theorem FunD.join {f:FunL} (hf:FunD f) {b t:Nat} (h:MayJ f b t):FunD (x8 f b t):=by
 have key:∀k,k<f.blocks.length→(tosB (x8 f b t).blocks k).length≤2∧(∀x∈tosB (x8 f b t).blocks k,1≤x∧x<(f.blocks.length:Int))∧(tosB (x8 f b t).blocks k).Nodup:=fun k hk=>by
  have base:∀k,k<f.blocks.length→(tosB f.blocks k).length≤2∧(∀x∈tosB f.blocks k,1≤x∧x<(f.blocks.length:Int))∧(tosB f.blocks k).Nodup:=fun k hk=>by
   rw [zF hk]
   exact ⟨hf.two k hk,hf.tos k hk,hf.once k hk⟩
  rw [vE h hk]
  split
  ·simp
  split
  ·exact base t h.ht
  exact base k hk
 refine ⟨⟨by rw [qM];exact hf.n1,by rw [qM];exact hf.n40,fun k hk=>?_,fun k hk=>?_⟩,fun k hk=>?_⟩
 ·rw [←zF hk];exact (key k (by rw [←qM f b t];exact hk)).1
 ·rw [←zF hk,qM];exact (key k (by rw [←qM f b t];exact hk)).2.1
 rw [←zF hk];exact (key k (by rw [←qM f b t];exact hk)).2.2

theorem Qh {f:FunL} (hf:FunD f) {b t:Nat} (h:MayJ f b t) {i a:Nat} (hi:i≠t):a∈insN (x8 f b t) i↔if (i:Int)∈tosB f.blocks t then a=b∨(a≠t∧a∈insN f i) else a∈insN f i:=by
 have hbi:b∉insN f i:=fun g=>by
  have:=(hf.mem.1 g).2
  rw [h.to,List.mem_singleton] at this
  omega
 have hti:t∈insN f i↔(i:Int)∈tosB f.blocks t:=by rw [hf.mem];exact ⟨fun g=>g.2,fun g=>⟨h.ht,g⟩⟩
 rw [(hf.join h).mem,qM]
 have hm:∀a,a∈insN f i↔a<f.blocks.length∧(i:Int)∈tosB f.blocks a:=fun a=>hf.mem
 by_cases ha:a<f.blocks.length
 ·rw [vE h ha]
  by_cases e1:a=t
  ·subst e1
   rw [if_pos rfl]
   split
   ·have:=h.ne;simp [this]
   rename_i g
   rw [hti]
   simp [g]
  rw [if_neg e1]
  by_cases e2:a=b
  ·subst e2
   rw [if_pos rfl]
   split
   ·rename_i g;simp [ha,g]
   rename_i g;simp [g,hbi]
  rw [if_neg e2,←hm]
  split<;>simp [e1,e2]
 have:a∉insN f i:=fun g=>ha ((hm a).1 g).1
 have hab:a≠b:=fun e=>ha (e ▸ h.hb)
 split<;>simp [ha,this,hab]
theorem join_phi {f:FunL} (hf:FunD f) {b t:Nat} (h:MayJ f b t) {i:Nat} (hi:i≠t) {src:List (Bool×Int)} (hl:src.length=(insN f i).length) :
  (if (i:Int)∈tosB f.blocks t then Q6 (insN f i) t b src else src)=(insN (x8 f b t) i).map fun a=>Q7 (insN f i) src (if (i:Int)∈tosB f.blocks t∧a=b then t else a):=by
 have hj:=hf.join h
 by_cases hc:(i:Int)∈tosB f.blocks t
 ·rw [if_pos hc]
  have e:=fromR_row (hf.insD i) hl
  have hti:t∈insN f i:=hf.mem.2 ⟨h.ht,hc⟩
  have hbi:b∉insN f i:=fun g=>by
   have:=(hf.mem.1 g).2
   rw [h.to,List.mem_singleton] at this
   omega
  have e2:=moveR_eq (xF hf i) (xF hj i) hti hbi (fun a=>by rw [Qh hf h hi,if_pos hc]) (Q7 (insN f i) src)
  rw [←e] at e2
  rw [e2]
  refine List.map_congr_left fun a _=>?_
  by_cases ea:a=b<;>simp [ea,hc]
 rw [if_neg hc]
 have e3:insN (x8 f b t) i=insN f i:=XA (xF hj i) (xF hf i) fun a=>by rw [Qh hf h hi,if_neg hc]
 rw [e3]
 have e:=fromR_row (hf.insD i) hl
 refine e.trans (List.map_congr_left fun a _=>?_)
 simp [hc]

theorem QH (u:Nat→Nat) (c i:Nat):∀n,((List.range n).map fun j=>if j=i then c else u j).sum+(if i<n then u i else 0)=((List.range n).map u).sum+if i<n then c else 0
 | 0=>by simp
 | n+1=>by
  have ih:=QH u c i n
  rw [List.range_succ,List.map_append,List.map_append,List.sum_append,List.sum_append]
  simp only [List.map_cons,List.map_nil,List.sum_cons,List.sum_nil]
  by_cases e:n=i
  ·subst e
   rw [if_neg (by omega),if_neg (by omega)] at ih
   rw [if_pos rfl,if_pos (by omega),if_pos (by omega)]
   omega
  rw [if_neg e]
  by_cases g:i<n
  ·rw [if_pos g,if_pos g] at ih
   rw [if_pos (by omega),if_pos (by omega)]
   omega
  rw [if_neg g,if_neg g] at ih
  rw [if_neg (by omega),if_neg (by omega)]
  omega
theorem many_join {f:FunL} {b t:Nat} (h:MayJ f b t):xm (x8 f b t)=xm f:=by
 rw [jE,jE,qM]
 obtain ⟨u,hu⟩:∃u:Nat→Nat,u=fun i=>(atF f i).phis.length+(atF f i).list.length:=⟨_,rfl⟩
 have e1:((List.range f.blocks.length).map fun i=>(atF (x8 f b t) i).phis.length+(atF (x8 f b t) i).list.length)=(List.range f.blocks.length).map fun j=>if j=t then 0 else if j=b then u b+u t else u j:=by
  refine List.map_congr_left fun i hi=>?_
  have hi:=List.mem_range.1 hi
  rw [vd hi h.hb h.ht]
  by_cases e:i=t
  ·rw [if_pos e,if_pos e];rfl
  rw [if_neg e,if_neg e]
  by_cases e2:i=b
  ·subst e2
   simp only [if_true,XD,List.length_map,List.length_append,hu]
   have hp:(atF f t).phis=[]:=by rw [qL h.ht];exact h.phi
   rw [hp]
   simp
   omega
  simp only [if_neg e2,XD,List.length_map,hu]
 have e2:((List.range f.blocks.length).map fun i=>(atF f i).phis.length+(atF f i).list.length)=(List.range f.blocks.length).map u:=by rw [hu]
 rw [e1,e2]
 have s1:=QH (fun j=>if j=b then u b+u t else u j) 0 t f.blocks.length
 have s2:=QH u (u b+u t) b f.blocks.length
 rw [if_pos h.ht,if_pos h.ht,if_neg h.ne] at s1
 rw [if_pos h.hb,if_pos h.hb] at s2
 omega

theorem FunC.join {nf:Nat} {P:Nat→Int} {f:FunL} (hc:FunC nf P f) {b t:Nat} (h:MayJ f b t):FunC nf P (x8 f b t):=by
 have hf:=hc.funD
 have hj:=hf.join h
 have hL:=qM f b t
 have fin:∀i,i<f.blocks.length→EndC f.regs f.blocks.length (atF f i).fin:=fun i hi=>by rw [qL hi];exact hc.fin i hi
 refine ⟨hj.n1,hj.n40,hc.par,hc.reg,by rw [many_join h];exact hc.many,fun i hi=>?_,fun i hi p hp=>?_,fun i hi x hx=>?_⟩
 ·show EndC f.regs _ _
  rw [←qL hi,qM]
  rw [hL] at hi
  rw [vd hi h.hb h.ht]
  by_cases e:i=t
  ·rw [if_pos e]
   exact ⟨⟨by decide,by decide⟩,rfl,by simp [ku],by simp [ku],by simp [ku],fun g=>by cases g⟩
  rw [if_neg e]
  show EndC _ _ (if i=b then _ else _)
  split
  ·exact fin t h.ht
  exact fin i hi
 ·rw [←qL hi] at hp
  rw [hL] at hi
  rw [vd hi h.hb h.ht] at hp
  by_cases e:i=t
  ·rw [if_pos e] at hp;cases hp
  rw [if_neg e] at hp
  have hp:p∈XD f b t i:=hp
  obtain ⟨q,hq,rfl⟩:=List.mem_map.1 hp
  rw [qL hi] at hq
  have hq:=hc.phi i hi q hq
  have e2:=join_phi hf h e hq.len
  have e3:(if (i:Int)∈(atF f t).fin.to then { q with src:=Q6 (insN f i) t b q.src } else q)={ q with src:=(insN (x8 f b t) i).map fun a=>Q7 (insN f i) q.src (if (i:Int)∈tosB f.blocks t∧a=b then t else a) }:=by
   rw [←kx f h.ht,←e2]
   split<;>rfl
  rw [e3]
  refine ⟨hq.blk,hq.dst,by simp,fun v hv=>?_⟩
  obtain ⟨a,ha,rfl⟩:=List.mem_map.1 hv
  have hm:(if (i:Int)∈tosB f.blocks t∧a=b then t else a)∈insN f i:=by
   rw [Qh hf h e] at ha
   by_cases hc2:(i:Int)∈tosB f.blocks t
   ·rw [if_pos hc2] at ha
    rcases ha with g|g
    ·rw [if_pos ⟨hc2,g⟩]
     exact hf.mem.2 ⟨h.ht,hc2⟩
    split
    ·exact hf.mem.2 ⟨h.ht,hc2⟩
    exact g.2
   rw [if_neg hc2] at ha
   rw [if_neg fun g=>hc2 g.1]
   exact ha
  refine hq.src _ ?_
  unfold Q7
  obtain ⟨k1,k2⟩:=xx hm
  have hlt:(insN f i).idxOf (if (i:Int)∈tosB f.blocks t∧a=b then t else a)<q.src.length:=by rw [hq.len];exact k1
  rw [List.getD_eq_getElem?_getD,List.getElem?_eq_getElem hlt]
  exact List.getElem_mem _
 rw [←qL hi] at hx
 rw [hL] at hi
 rw [vd hi h.hb h.ht] at hx
 have ins:∀i,i<f.blocks.length→∀x∈(atF f i).list,jK f.regs nf P x.op x.dst x.an x.bn x.fn x.ar x.br x.args=0:=fun i hi=>by rw [qL hi];exact hc.ins i hi
 by_cases e:i=t
 ·rw [if_pos e] at hx;cases hx
 rw [if_neg e] at hx
 have hx:x∈(if i=b then (atF f b).list++(atF f t).list else (atF f i).list):=hx
 split at hx
 ·rcases List.mem_append.1 hx with g|g
  ·exact ins b h.hb x g
  exact ins t h.ht x g
 exact ins i hi x hx

theorem FunC.chain {nf:Nat} {P:Nat→Int}:∀(c:Nat) {f:FunL} {b:Nat},FunC nf P f→b<f.blocks.length→FunC nf P (qW c f b)∧(qW c f b).blocks.length=f.blocks.length
 | 0,_,_,h,_=>⟨h,rfl⟩
 | c+1,f,b,h,hb=>by
  unfold qW
  cases e:jq f b with
  | none=>exact ⟨h,rfl⟩
  | some t=>
   obtain ⟨h1,h2⟩:=FunC.chain c (h.join (mayJ h hb e)) (b:=b) (by rw [qM];exact hb)
   exact ⟨h1,by rw [h2,qM]⟩
theorem FunC.chains {nf:Nat} {P:Nat→Int} {f:FunL} (h:FunC nf P f):FunC nf P (qQ f):=by
 unfold qQ
 have key:∀(l:List Nat) (g:FunL) (c:Nat),(∀b∈l,b<f.blocks.length)→FunC nf P g→g.blocks.length=f.blocks.length→FunC nf P (l.foldl (fun g b=>qW c g b) g):=by
  intro l
  induction l with
  | nil=>intro g c _ h _;exact h
  | cons b l ih=>
   intro g c hl hg hn
   obtain ⟨h1,h2⟩:=hg.chain c (b:=b) (by rw [hn];exact hl b (.head _))
   exact ih _ c (fun x hx=>hl x (.tail _ hx)) h1 (h2.trans hn)
 exact key _ f _ (fun b hb=>List.mem_range.1 hb) h rfl

structure InsC (regs:Int) (nf:Nat) (P:Nat→Int) (x:InsL):Prop where
 op:1≤x.op∧x.op≤22
 d0:shD x.op=false→x.dst = -1
 a0:shA x.op=false→x.ar=false∧x.an=0
 b0:shB x.op=false→x.br=false∧x.bn=0
 c0:x.op≠20→x.fn=0∧x.args.length=0
 d1:shD x.op=true→¬(x.op=20∧x.dst = -1)→0≤x.dst∧x.dst<regs
 a:Q5 regs x.ar x.an
 b:Q5 regs x.br x.bn
 call:x.op=20→(0≤x.fn∧x.fn<(nf:Int))∧(x.args.length:Int)=P x.fn.toNat∧∀v∈x.args,Q5 regs v.1 v.2
theorem dstE_iff {regs n:Int}:vQ regs n=0↔0≤n∧n<regs:=by
 unfold vQ
 split
 ·exact ⟨fun _=>by omega,fun _=>rfl⟩
 exact ⟨fun g=>absurd g (by decide),fun g=>by omega⟩
theorem callE_iff {regs:Int} {nf:Nat} {P:Nat→Int} {op fn:Int} {L:List (Bool×Int)}:xY regs nf P (op == 20) fn L=0↔(op=20→(0≤fn∧fn<(nf:Int))∧(L.length:Int)=P fn.toNat∧∀v∈L,Q5 regs v.1 v.2):=by
 unfold xY
 by_cases h:op=20
 ·rw [if_neg (by simp [h])]
  by_cases h1:0≤fn∧fn<(nf:Int)
  ·rw [if_neg (by simpa using h1)]
   by_cases h2:(L.length:Int)=P fn.toNat
   ·rw [if_neg (by simpa using h2)]
    unfold valsE
    rw [kR]
    exact ⟨fun g _=>⟨h1,h2,fun v hv=>valE_iff.1 (g _ (List.mem_map.2 ⟨v,hv,rfl⟩))⟩,fun g y hy=>by
     obtain ⟨v,hv,rfl⟩:=List.mem_map.1 hy
     exact valE_iff.2 ((g h).2.2 v hv)⟩
   rw [if_pos h2]
   exact ⟨fun g=>absurd g (by decide),fun g=>absurd (g h).2.1 h2⟩
  rw [if_pos h1]
  exact ⟨fun g=>absurd g (by decide),fun g=>absurd (g h).1 h1⟩
 rw [if_pos (by simpa using h)]
 exact ⟨fun _ g=>absurd g h,fun _=>rfl⟩
theorem insC_iff {regs:Int} {nf:Nat} {P:Nat→Int} {x:InsL}:jK regs nf P x.op x.dst x.an x.bn x.fn x.ar x.br x.args=0↔InsC regs nf P x:=by
 unfold jK
 by_cases h1:1≤x.op∧x.op≤22
 rotate_left
 ·rw [if_pos h1]
  exact ⟨fun g=>absurd g (by decide),fun g=>absurd g.op h1⟩
 rw [if_neg (by simpa using h1)]
 by_cases h2:(shD x.op=false∧x.dst≠-1)∨(shA x.op=false∧¬(x.ar=false∧x.an=0))∨(shB x.op=false∧¬(x.br=false∧x.bn=0))∨(x.op≠20∧(x.fn≠0∨0<x.args.length))
 ·rw [if_pos h2]
  refine ⟨fun g=>absurd g (by decide),fun g=>?_⟩
  rcases h2 with h|h|h|h
  ·exact absurd (g.d0 h.1) h.2
  ·exact absurd (g.a0 h.1) h.2
  ·exact absurd (g.b0 h.1) h.2
  have:=g.c0 h.1
  have:=h.2
  omega
 rw [if_neg h2]
 by_cases h3:shD x.op=true∧¬(x.op=20∧x.dst = -1)∧vQ regs x.dst≠0
 ·rw [if_pos h3]
  exact ⟨fun g=>absurd g h3.2.2,fun g=>absurd (dstE_iff.2 (g.d1 h3.1 h3.2.1)) h3.2.2⟩
 rw [if_neg h3,kR]
 constructor
 ·intro g
  refine ⟨h1,fun e=>?_,fun e=>?_,fun e=>?_,fun e=>?_,fun e1 e2=>?_,valE_iff.1 (g _ (by simp)),valE_iff.1 (g _ (by simp)),callE_iff.1 (g _ (by simp))⟩
  ·exact Classical.byContradiction fun k=>h2 (.inl ⟨e,k⟩)
  ·exact Classical.byContradiction fun k=>h2 (.inr (.inl ⟨e,k⟩))
  ·exact Classical.byContradiction fun k=>h2 (.inr (.inr (.inl ⟨e,k⟩)))
  ·refine Classical.byContradiction fun k=>h2 (.inr (.inr (.inr ⟨e,?_⟩)))
   omega
  exact dstE_iff.1 (Classical.byContradiction fun k=>h3 ⟨e1,e2,k⟩)
 intro g y hy
 simp only [List.mem_cons,List.not_mem_nil,or_false] at hy
 rcases hy with rfl|rfl|rfl
 ·exact valE_iff.2 g.a
 ·exact valE_iff.2 g.b
 exact callE_iff.2 g.call
/-! ## names as registers are met -/

def xW (L:List Nat):List Nat:=L.foldl (fun D r=>if r∈D then D else D++[r]) []
def stD (D:List Nat):NamS:=(qB D,(D.length:Int))
theorem nameS_st {D:List Nat} {r:Nat}:jl (stD D) r=stD (if r∈D then D else D++[r]):=by
 unfold jl stD
 by_cases h:r∈D
 ·rw [if_neg (by show ¬ qB D r<0;rw [xp h];omega),if_pos h]
 have e:qB D r = -1:=by unfold qB;rw [if_neg h]
 rw [if_pos (by show qB D r<0;omega),if_neg h]
 refine Prod.ext (funext fun i=>?_) (by simp)
 show (if i=r then (D.length:Int) else qB D i)=qB (D++[r]) i
 unfold qB
 by_cases e2:i=r
 ·subst e2
  rw [if_pos rfl,if_pos (by simp),List.idxOf_append,if_neg h]
  simp
 rw [if_neg e2]
 by_cases e3:i∈D
 ·rw [if_pos e3,if_pos (by simp [e3]),List.idxOf_append,if_pos e3]
 rw [if_neg e3,if_neg (by simp [e2,e3])]
theorem Zh (L:List Nat):∀D,L.foldl jl (stD D)=stD (L.foldl (fun D r=>if r∈D then D else D++[r]) D):=by
 induction L with
 | nil=>intro D;rfl
 | cons r L ih=>intro D;rw [List.foldl_cons,List.foldl_cons,nameS_st,ih]
theorem xL {L:List Nat}:∀{D:List Nat},D.Nodup→(L.foldl (fun D r=>if r∈D then D else D++[r]) D).Nodup∧(∃E,L.foldl (fun D r=>if r∈D then D else D++[r]) D=D++E)∧∀r,r∈L.foldl (fun D r=>if r∈D then D else D++[r]) D↔r∈D∨r∈L:=by
 induction L with
 | nil=>intro D h;exact ⟨h,⟨[],by simp⟩,by simp⟩
 | cons x L ih=>
  intro D h
  rw [List.foldl_cons]
  by_cases hx:x∈D
  ·rw [if_pos hx]
   obtain ⟨h1,h2,h3⟩:=ih h
   refine ⟨h1,h2,fun r=>?_⟩
   rw [h3,List.mem_cons]
   constructor
   ·rintro (g|g);exact .inl g;exact .inr (.inr g)
   rintro (g|g|g);exact .inl g;exact .inl (g ▸ hx);exact .inr g
  rw [if_neg hx]
  obtain ⟨h1,⟨E,h2⟩,h3⟩:=ih (D:=D++[x]) (List.nodup_append.2 ⟨h,by simp,fun a ha b hb e=>by rw [List.mem_singleton] at hb;exact hx (hb ▸ e ▸ ha)⟩)
  refine ⟨h1,⟨x::E,by rw [h2];simp⟩,fun r=>?_⟩
  rw [h3]
  simp [or_assoc]
theorem vh (n:Nat) (M:List Nat):∃E,xW (List.range n++M)=List.range n++E:=by
 unfold xW
 rw [List.foldl_append]
 have e:∀n,(List.range n).foldl (fun D r=>if r∈D then D else D++[r]) []=List.range n:=by
  intro n
  induction n with
  | zero=>rfl
  | succ n ih=>rw [List.range_succ,List.foldl_append,ih,List.foldl_cons,List.foldl_nil,if_neg (by simp)]
 rw [e]
 exact (xL List.nodup_range).2.1
theorem nam0_st:nam0=stD []:=by
 unfold nam0 stD qB
 simp
def jM (f:FunL):List Nat:=xW (k8 f++Qg f)
theorem ZK (f:FunL):xK f=stD (jM f):=by
 unfold xK jM xW
 rw [nam0_st,Zh]
theorem VL (f:FunL):(jM f).Nodup:=(xL (D:=[]) List.nodup_nil).1
theorem metL_mem {f:FunL} {r:Nat}:r∈jM f↔r∈k8 f++Qg f:=by
 have:=(xL (L:=k8 f++Qg f) (D:=[]) List.nodup_nil).2.2 r
 simpa [jM,xW] using this
end Go.Proofs.YtgjjhadbjmcnpaaGreatDoor
namespace Go.Proofs.YtgjjhadbjmcnpaaGreatDoor
open Go.RowKit Go.Shelf

structure NmSt (w:World) (nb A m:Nat) (s:NamS):Prop where
 st:w.heap[nb]?=some (.cells #[.slice (some ⟨A,0,none⟩) m m,.int .i64 s.2] 136 (0,0))
 row:w.rowIs A 3 m (fun j=>.int .i64 (s.1 j))
 ne:nb≠A
 many:0≤s.2∧s.2≤1000000
theorem NmSt.kept {U:Blks} {w w':World} {nb A m:Nat} {s:NamS} (h:NmSt w nb A m s) (hk:Kept U w w') (h1:¬ U nb) (h2:¬ U A):NmSt w' nb A m s:=
 ⟨(hk.block _ (qd h.st) h1).trans h.st,h.row.of_block (hk.block _ h.row.lt h2),h.ne,h.many⟩
theorem NmSt.below {w w':World} {nb A m:Nat} {s:NamS} (h:NmSt w nb A m s) (hb:Below w.heap.size w w'):NmSt w' nb A m s:=h.kept (U:=fun _=>False) (Kept.of_below hb) id id
theorem NmSt.drew {w:World} {nb A m:Nat} {s:NamS} (h:NmSt w nb A m s):NmSt w.drew nb A m s:=h.below (Below.refl _ w).drew

theorem XE (r nb A m:Nat) (s:NamS) (w:World) (h:NmSt w nb A m s) (hr:r<m) (_hb:-1≤s.1 r∧s.1 r≤1000000) :
  Calls Tryz.prog 93 #[.pointer (some ⟨nb,0,none⟩),.int .i64 r] w fun e w'=>e = .returned (.int .i64 ((jl s r).1 r))∧(s.2<1000000→NmSt w' nb A m (jl s r))∧Kept (fun k=>k=nb∨k=A) w w':=by
 obtain ⟨hst,hrow,hne,hm1,hm2⟩:=h
 have z1:=qd hst
 have z2:=hrow.lt
 obtain ⟨cb,cf⟩:=blk hst
 have cb0:=cb 0
 have cb1:=cb 1
 simp only [List.getElem?_toArray,List.getElem?_cons_zero,List.getElem?_cons_succ] at cb0 cb1
 have c2:=hrow.cell hr
 have c2f:=hrow.frozen r
 have hne2:¬ A=nb:=fun e=>hne e.symm
 have hst':w.heap[nb]?=some (.cells #[.slice (some ⟨A,0,none⟩) m m,.int .i64 s.2] 136 (0,0)):=hst
 have HSt:=q8 hst'
 have hkM:=q8 hrow
 clear cb hst hst' hrow
 by_cases hlt:s.1 r<0
 ·have hw:IntKind.i64.wrap (s.2+1)=s.2+1:=by rw [IntKind.wrap_i64];omega
  have hl:decide (s.1 r<0)=true:=by simpa using hlt
  have hn:jl s r=(fun i=>if i=r then s.2 else s.1 i,s.2+1):=by unfold jl;rw [if_pos hlt]
  have HN:=q8 hn
  clear hn
  go_enter Tryz.func93,Tryz.ntmps93
  go_wp2_with fail
  go_region
  go_wp2_with fail
  go_ret
  obtain ⟨W,hW⟩:∃W,W=((w.setCell ⟨A,r,none⟩ (.int .i64 s.2)).setCell ⟨nb,1,none⟩ (.int .i64 (s.2+1))).drew:=⟨_,rfl⟩
  rw [←hW,HN.out]
  have hK:Kept (fun k=>k=nb∨k=A) w W:=by
   rw [hW]
   have h0:Kept (fun k=>k=nb∨k=A) w w:=Kept.refl _ w
   have h1:=h0.setCell (p:=⟨A,r,none⟩) (.inr rfl) (.int .i64 s.2)
   exact (h1.setCell (p:=⟨nb,1,none⟩) (.inl rfl) (.int .i64 (s.2+1))).drew
  refine ⟨by simp,fun hs=>⟨?_,?_,hne,by simp;omega⟩,hK⟩
  ·rw [hW]
   show ((w.setCell ⟨A,r,none⟩ (.int .i64 s.2)).setCell ⟨nb,1,none⟩ (.int .i64 (s.2+1))).heap[nb]?=_
   rw [qj ((Go.Deep.blk_setCell_other w ⟨A,r,none⟩ _ nb hne).trans HSt.out) 1 _]
   rfl
  rw [hW]
  refine (((hkM.out.set r (.int .i64 s.2)).setOther (by show A≠nb;exact fun e=>hne e.symm) _).drew).congr fun j _=>?_
  by_cases e:j=r<;>simp [e]
 have hl:decide (s.1 r<0)=false:=by simpa using hlt
 have hn:jl s r=s:=by unfold jl;rw [if_neg hlt]
 have HN:=q8 hn
 clear hn
 go_enter Tryz.func93,Tryz.ntmps93
 go_wp2_with fail
 go_ret
 rw [HN.out]
 exact ⟨rfl,fun _=>⟨HSt.out,hkM.out,hne,hm1,hm2⟩,Kept.refl _ _⟩

theorem nval_any (v:Bool×Int) (nb A m:Nat) (s:NamS) (w:World) (h:NmSt w nb A m s) (hv:v.1=true→0≤v.2∧v.2<m) (hb:∀r,-1≤s.1 r∧s.1 r≤1000000) :
  Calls Tryz.prog 94 #[.pointer (some ⟨nb,0,none⟩),.agg #[.bool v.1,.int .i64 v.2]] w fun e w'=>e = .returned (.agg #[.bool v.1,.int .i64 (zD ((xq v).foldl jl s).1 v).2])∧(s.2<1000000→NmSt w' nb A m ((xq v).foldl jl s))∧Kept (fun k=>k=nb∨k=A) w w':=by
 obtain ⟨vr,vn⟩:=v
 have zn:=qd h.st
 have zA:=h.row.lt
 have HM:=q8 h
 cases vr with
 | false=>
  have hm:(xq (false,vn)).foldl jl s=s:=rfl
  have hr:(zD s.1 (false,vn)).2=vn:=rfl
  rw [hm,hr]
  have h0:=h.many
  clear h hm hr
  go_enter Tryz.func94,Tryz.ntmps94
  go_wp2_with fail
  obtain ⟨W,hW⟩:∃W,W=(w.alloc (.cells #[.bool false,.int .i64 vn] 44)).alloc (.cells #[.bool false,.int .i64 vn] 44):=⟨_,rfl⟩
  rw [←hW]
  have hb:Below w.heap.size w W:=by rw [hW];exact bZ
  have hR:W.heap[w.heap.size+1]?=some (.cells #[.bool false,.int .i64 vn] 44 (0,0)):=by
   rw [hW]
   exact qq (by simp)
  clear hW
  obtain ⟨rb,_⟩:=blk hR
  have rb0:=rb 0
  have rb1:=rb 1
  simp only [List.getElem?_toArray,List.getElem?_cons_zero,List.getElem?_cons_succ] at rb0 rb1
  refine bodyPost_ret (v:=.agg #[.bool false,.int .i64 vn]) ?_ rfl ⟨rfl,fun _=>HM.out.below hb,Kept.of_below hb⟩
  simp [results,Tryz.results94,go_sem,rb0,rb1]
 | true=>
  obtain ⟨hv1,hv2⟩:=hv rfl
  obtain ⟨r,rfl⟩:∃r:Nat,vn=(r:Int):=⟨vn.toNat,by simp at hv1;omega⟩
  have hrm:r<m:=by simp at hv2;omega
  have hm:(xq (true,(r:Int))).foldl jl s=jl s r:=by simp [xq]
  have hr:(zD (jl s r).1 (true,(r:Int))).2=(jl s r).1 r:=by simp [zD]
  rw [hm,hr]
  have hcon:=fun W (hW:NmSt W nb A m s)=>XE r nb A m s W hW hrm (hb r)
  have hep:=q8 hcon
  obtain ⟨nr,hnr⟩:∃nr,nr=(jl s r).1 r:=⟨_,rfl⟩
  rw [←hnr]
  have HNr:=q8 hnr
  clear h hm hr hcon hnr
  go_enter Tryz.func94,Tryz.ntmps94
  go_wp2_with fail
  have hb1:Below w.heap.size w ((w.alloc (.cells #[.bool true,.int .i64 r] 44)).alloc (.cells #[.bool false,.int .i64 0] 44)):=by exact bZ
  refine (hep.out _ (HM.out.below hb1)).mono ?_
  rintro e w2 ⟨rfl,hN2,hK2⟩
  rw [←HNr.out]
  have hV2:w2.heap[w.heap.size]?=some (.cells #[.bool true,.int .i64 r] 44 (0,0)):=(hK2.block _ (by simp;omega) (by omega)).trans (qh (qq rfl))
  have hZ2:w2.heap[w.heap.size+1]?=some (.cells #[.bool false,.int .i64 0] 44 (0,0)):=(hK2.block _ (by simp) (by omega)).trans (qq (by simp))
  have hz2:=hK2.size
  obtain ⟨vb,vf⟩:=blk hV2
  have vb0:=vb 0
  have vb1:=vb 1
  obtain ⟨zb,zf⟩:=blk hZ2
  have zb0:=zb 0
  have zb1:=zb 1
  simp only [List.getElem?_toArray,List.getElem?_cons_zero,List.getElem?_cons_succ] at vb0 vb1 zb0 zb1
  have zv:=qd hV2
  have zz:=qd hZ2
  have hne1:¬ (w.heap.size+1=w.heap.size):=by omega
  have hne2:¬ (w.heap.size=w.heap.size+1):=by omega
  have HN2:=q8 hN2
  have HK2:=q8 ((Kept.of_below hb1).trans hK2 (fun _ _ h=>h))
  have HZ2:=q8 hZ2
  clear hN2 hK2 hV2 hZ2 vb zb hb1
  go_wp2_with fail
  obtain ⟨W,hW⟩:∃W,W=((w2.setCell ⟨w.heap.size,1,none⟩ (.int .i64 nr)).setCell ⟨w.heap.size+1,0,none⟩ (.bool true)).setCell ⟨w.heap.size+1,1,none⟩ (.int .i64 nr):=⟨_,rfl⟩
  rw [←hW]
  have hK:Kept (fun k=>k=w.heap.size∨k=w.heap.size+1) w2 W:=by
   rw [hW]
   have h0:Kept (fun k=>k=w.heap.size∨k=w.heap.size+1) w2 w2:=Kept.refl _ _
   have h1:=h0.setCell (p:=⟨w.heap.size,1,none⟩) (.inl rfl) (.int .i64 nr)
   have h2:=h1.setCell (p:=⟨w.heap.size+1,0,none⟩) (.inr rfl) (.bool true)
   exact h2.setCell (p:=⟨w.heap.size+1,1,none⟩) (.inr rfl) (.int .i64 nr)
  have hR:W.heap[w.heap.size+1]?=some (.cells #[.bool true,.int .i64 nr] 44 (0,0)):=by
   have h1:(w2.setCell ⟨w.heap.size,1,none⟩ (.int .i64 nr)).heap[w.heap.size+1]?=some (.cells #[.bool false,.int .i64 0] 44 (0,0)):=(Go.Deep.blk_setCell_other _ _ _ _ (by show w.heap.size+1≠w.heap.size;omega)).trans HZ2.out
   rw [hW,qj (qj h1 0 _) 1 _]
   rfl
  clear hW
  obtain ⟨rb,_⟩:=blk hR
  have rb0:=rb 0
  have rb1:=rb 1
  simp only [List.getElem?_toArray,List.getElem?_cons_zero,List.getElem?_cons_succ] at rb0 rb1
  refine bodyPost_ret (v:=.agg #[.bool true,.int .i64 nr]) ?_ rfl ⟨rfl,fun hs=>(HN2.out hs).kept hK (by omega) (by omega),(HK2.out.trans hK (fun k h1 h2=>by omega))⟩
  simp [results,Tryz.results94,go_sem,rb0,rb1]
end Go.Proofs.YtgjjhadbjmcnpaaGreatDoor
namespace Go.Proofs.YtgjjhadbjmcnpaaGreatDoor
open Go.RowKit

theorem vG {f:FunL} {b:Nat} (hb:b<f.blocks.length) {r:Nat} (h:r∈Z0 f.blocks[b]):r∈jM f:=
 metL_mem.2 (List.mem_append_right _ (List.mem_flatMap.2 ⟨_,List.getElem_mem hb,h⟩))
theorem xw {v:Bool×Int} (h:v.1=true):v.2.toNat∈xq v:=by unfold xq;rw [if_pos h];simp
theorem metV_is {v:Bool×Int} {r:Nat} (h:r∈xq v):v.1=true∧r=v.2.toNat:=by
 unfold xq at h
 split at h
 ·rename_i e;exact ⟨e,List.mem_singleton.1 h⟩
 cases h
theorem ZL {x:BlkL} (h:x.fin.onr=true):x.fin.onn.toNat∈Z0 x:=List.mem_append_right _ (xw (v:=(x.fin.onr,x.fin.onn)) h)
theorem Qi {x:BlkL} {p:PhiL} (h:p∈x.phis):p.dst.toNat∈Z0 x:=List.mem_append_left _ (List.mem_append_left _ (List.mem_flatMap.2 ⟨p,h,List.mem_cons_self⟩))
theorem ZM {x:BlkL} {p:PhiL} (h:p∈x.phis) {v:Bool×Int} (hv:v∈p.src) (e:v.1=true):v.2.toNat∈Z0 x:=
 List.mem_append_left _ (List.mem_append_left _ (List.mem_flatMap.2 ⟨p,h,List.mem_cons_of_mem _ (List.mem_flatMap.2 ⟨v,hv,xw e⟩)⟩))
theorem ZN {x:BlkL} {i:InsL} (h:i∈x.list) {r:Nat} (hr:r∈vN i++jg i.dst):r∈Z0 x:=
 List.mem_append_left _ (List.mem_append_right _ (List.mem_flatMap.2 ⟨i,h,hr⟩))

theorem FunC.met {nf:Nat} {P:Nat→Int} {f:FunL} (h:FunC nf P f) {r:Nat} (hr:r∈jM f):(r:Int)<f.regs:=by
 have hp:=h.par
 have hg:=h.reg
 have val:∀{v:Bool×Int},Q5 f.regs v.1 v.2→r∈xq v→(r:Int)<f.regs:=fun hv hm=>by
  obtain ⟨e1,e2⟩:=metV_is hm
  have:=hv e1
  omega
 have dst:∀{d:Int},d<f.regs→r∈jg d→(r:Int)<f.regs:=fun hd hm=>by
  unfold jg at hm
  split at hm
  ·have:=List.mem_singleton.1 hm;omega
  cases hm
 have ins:∀b (hb:b<f.blocks.length),∀i∈f.blocks[b].list,r∈vN i++jg i.dst→(r:Int)<f.regs:=fun b hb i hi hm=>by
  have hc:=insC_iff.1 (h.ins b hb i hi)
  have hdst:i.dst<f.regs:=by
   by_cases e:shD i.op=true∧¬(i.op=20∧i.dst = -1)
   ·exact (hc.d1 e.1 e.2).2
   by_cases e2:shD i.op=true
   ·have e3:i.op=20∧i.dst = -1:=Classical.byContradiction fun g=>e ⟨e2,g⟩
    omega
   have:=hc.d0 (by simpa using e2)
   omega
  rcases List.mem_append.1 hm with g|g
  ·unfold vN at g
   rcases List.mem_append.1 g with g|g
   ·rcases List.mem_append.1 g with g|g
    ·exact val hc.a g
    exact val hc.b g
   obtain ⟨v,hv,g⟩:=List.mem_flatMap.1 g
   by_cases e:i.op=20
   ·exact val ((hc.call e).2.2 v hv) g
   have:=(hc.c0 e).2
   rw [List.eq_nil_of_length_eq_zero this] at hv
   cases hv
  exact dst hdst g
 have phi:∀b (hb:b<f.blocks.length),∀p∈f.blocks[b].phis,(p.dst<f.regs∧0≤p.dst)∧∀v∈p.src,Q5 f.regs v.1 v.2:=fun b hb p hp=>⟨⟨(h.phi b hb p hp).dst.2,(h.phi b hb p hp).dst.1⟩,(h.phi b hb p hp).src⟩
 rcases List.mem_append.1 (metL_mem.1 hr) with g|g
 ·unfold k8 at g
  rcases List.mem_append.1 g with g|g
  ·have:=List.mem_range.1 g;omega
  obtain ⟨x,hx,g⟩:=List.mem_flatMap.1 g
  obtain ⟨b,hb,rfl⟩:=List.mem_iff_getElem.1 hx
  unfold XU at g
  rcases List.mem_append.1 g with g|g
  ·rcases List.mem_append.1 g with g|g
   ·obtain ⟨p,hp,rfl⟩:=List.mem_map.1 g
    have:=(phi b hb p hp).1
    omega
   obtain ⟨i,hi,g⟩:=List.mem_flatMap.1 g
   exact ins b hb i hi g
  exact val (h.fin b hb).on g
 unfold Qg at g
 obtain ⟨x,hx,g⟩:=List.mem_flatMap.1 g
 obtain ⟨b,hb,rfl⟩:=List.mem_iff_getElem.1 hx
 unfold Z0 at g
 rcases List.mem_append.1 g with g|g
 ·rcases List.mem_append.1 g with g|g
  ·obtain ⟨p,hp,g⟩:=List.mem_flatMap.1 g
   rcases List.mem_cons.1 g with rfl|g
   ·have:=(phi b hb p hp).1
    omega
   obtain ⟨v,hv,g⟩:=List.mem_flatMap.1 g
   exact val ((phi b hb p hp).2 v hv) g
  obtain ⟨i,hi,g⟩:=List.mem_flatMap.1 g
  exact ins b hb i hi g
 exact val (h.fin b hb).on g

theorem qO (f:FunL):(qH f).blocks.length=f.blocks.length:=by simp [qH]
theorem jF {f:FunL} {b:Nat} (h:b<(qH f).blocks.length):(qH f).blocks[b]=kP (xK f).1 (f.blocks[b]'(by rw [←qO f];exact h)):=by simp [qH]
theorem Vd (f:FunL) (c:Nat):insN (qH f) c=insN f c:=by
 have e:Q3 (qH f)=Q3 f:=by
  unfold Q3 qH
  rw [List.map_map]
  rfl
 unfold insN xr
 rw [e,qO]
theorem vi (f:FunL):(qH f).regs=((jM f).length:Int):=by
 show (xK f).2=_
 rw [ZK];rfl
theorem ZO {f:FunL} {r:Nat} (h:r∈jM f):0≤(xK f).1 r∧(xK f).1 r<(qH f).regs:=by
 rw [vi,ZK]
 obtain ⟨h1,_⟩:=xx h
 show 0≤qB (jM f) r∧qB (jM f) r<_
 rw [xp h]
 omega

theorem FunC.name {nf:Nat} {P:Nat→Int} {f:FunL} (h:FunC nf P f):FunC nf P (qH f):=by
 have hp:=h.par
 have hg:=h.reg
 have hle:((jM f).length:Int)≤f.regs:=by
  have:=xE f.regs.toNat (jM f) (VL f) (fun x hx=>by have:=h.met hx;omega)
  omega
 have hge:f.params≤((jM f).length:Int):=by
  obtain ⟨E,hE⟩:=vh f.params.toNat (f.blocks.flatMap XU++Qg f)
  have:jM f=List.range f.params.toNat++E:=by
   unfold jM k8
   rw [List.append_assoc]
   exact hE
  rw [this,List.length_append,List.length_range]
  omega
 have ren:∀{v:Bool×Int},(v.1=true→v.2.toNat∈jM f)→Q5 (qH f).regs (zD (xK f).1 v).1 (zD (xK f).1 v).2:=fun {v} hv e=>by
  unfold zD at e ⊢
  by_cases e1:v.1=true
  ·rw [if_pos e1] at e ⊢
   exact ZO (hv e1)
  rw [if_neg e1] at e
  exact absurd e e1
 have many:xm (qH f)=xm f:=by
  unfold xm qH
  rw [List.map_map]
  congr 1
  exact List.map_congr_left fun b _=>by simp [kP]
 have eq1:∀(r:Bool) (n:Int),(zD (xK f).1 (r,n)).1=r:=fun r n=>by
  unfold zD
  cases r<;>rfl
 refine ⟨by rw [qO];exact h.n1,by rw [qO];exact h.n40,hp,⟨by rw [vi];exact hge,by rw [vi];omega⟩,by rw [many];exact h.many,fun b hb=>?_,fun b hb p hp=>?_,fun b hb x hx=>?_⟩
 ·have hb':b<f.blocks.length:=by rw [←qO f];exact hb
  have hf:=h.fin b hb'
  rw [jF hb]
  refine ⟨hf.kind,hf.len,fun t ht=>by have e:=hf.to t ht;have e2:=qO f;exact ⟨e.1,by omega⟩,hf.two,fun e=>?_,?_⟩
  ·have:=hf.jump e
   refine ⟨this.1,?_⟩
   show (zD _ (_,_)).2=0
   unfold zD
   rw [if_neg (by rw [this.1];simp)]
   exact this.2
  have:=ren (v:=(f.blocks[b].fin.onr,f.blocks[b].fin.onn)) fun e=>vG hb' (ZL e)
  rw [eq1] at this
  exact this
 ·have hb':b<f.blocks.length:=by rw [←qO f];exact hb
  rw [jF hb] at hp
  obtain ⟨q,hq,rfl⟩:=List.mem_map.1 hp
  have hc:=h.phi b hb' q hq
  refine ⟨hc.blk,ZO (vG hb' (Qi hq)),by rw [Vd];simpa using hc.len,fun v hv=>?_⟩
  obtain ⟨w,hw,rfl⟩:=List.mem_map.1 hv
  exact ren fun e=>vG hb' (ZM hq hw e)
 have hb':b<f.blocks.length:=by rw [←qO f];exact hb
 rw [jF hb] at hx
 obtain ⟨y,hy,rfl⟩:=List.mem_map.1 hx
 have hc:=insC_iff.1 (h.ins b hb' y hy)
 have mem:∀{r:Nat},r∈vN y++jg y.dst→r∈jM f:=fun hr=>vG hb' (ZN hy hr)
 refine insC_iff.2 ⟨hc.op,fun e=>?_,fun e=>?_,fun e=>?_,fun e=>?_,fun e1 e2=>?_,?_,?_,fun e=>?_⟩
 ·show (if 0≤y.dst then _ else y.dst) = -1
  have:=hc.d0 e
  rw [if_neg (by omega)]
  exact this
 ·have:=hc.a0 e
  refine ⟨this.1,?_⟩
  show (zD _ (_,_)).2=0
  unfold zD
  rw [if_neg (by rw [this.1];simp)]
  exact this.2
 ·have:=hc.b0 e
  refine ⟨this.1,?_⟩
  show (zD _ (_,_)).2=0
  unfold zD
  rw [if_neg (by rw [this.1];simp)]
  exact this.2
 ·have:=hc.c0 e
  exact ⟨this.1,by simpa [xU] using this.2⟩
 ·show 0≤(if 0≤y.dst then _ else y.dst)∧(if 0≤y.dst then _ else y.dst)<_
  by_cases e3:0≤y.dst
  ·rw [if_pos e3]
   exact ZO (mem (List.mem_append_right _ (by unfold jg;rw [if_pos e3];simp)))
  refine absurd (hc.d1 e1 fun g=>e2 ⟨g.1,?_⟩).1 e3
  show (if 0≤y.dst then _ else y.dst) = -1
  rw [if_neg e3]
  exact g.2
 ·have:=ren (v:=(y.ar,y.an)) fun e=>mem (List.mem_append_left _ (List.mem_append_left _ (List.mem_append_left _ (xw e))))
  rw [eq1] at this
  exact this
 ·have:=ren (v:=(y.br,y.bn)) fun e=>mem (List.mem_append_left _ (List.mem_append_left _ (List.mem_append_right _ (xw e))))
  rw [eq1] at this
  exact this
 have:=hc.call e
 refine ⟨this.1,by simpa [xU] using this.2.1,fun v hv=>?_⟩
 obtain ⟨w,hw,rfl⟩:=List.mem_map.1 hv
 exact ren fun e=>mem (List.mem_append_left _ (List.mem_append_right _ (List.mem_flatMap.2 ⟨w,hw,xw e⟩)))

theorem FunC.order {nf:Nat} {P:Nat→Int} {f:FunL} (h:FunC nf P f):FunC nf P (jN f):=h.keep h.funD.toFunS.ordC
theorem FunC.names {nf:Nat} {P:Nat→Int} {f:FunL} (h:FunC nf P f):FunC nf P (xV f):=h.order.name
theorem FunC.done {nf:Nat} {P:Nat→Int} {f:FunL} (h:FunC nf P f):FunC nf P (doT f):=h.order.chains.names
end Go.Proofs.YtgjjhadbjmcnpaaGreatDoor
