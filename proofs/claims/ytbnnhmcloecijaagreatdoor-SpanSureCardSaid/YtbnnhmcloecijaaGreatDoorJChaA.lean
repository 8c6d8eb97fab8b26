/-
  Plain: a function's blocks and their lists, apart; a block that goes into another one.
-/
import Derived.Test.YtbnnhmcloecijaaGreatDoorJRenA
namespace Go.Proofs.YtbnnhmcloecijaaGreatDoor
open Go.RowKit

theorem Zi (u:Nat→Nat) (c i:Nat):∀n,((List.range n).map fun j=>if j=i then c else u j).sum+(if i<n then u i else 0)=((List.range n).map u).sum+if i<n then c else 0
 | 0=>by simp
 | n+1=>by
  have ih:=Zi u c i n
  rw [List.range_succ,List.map_append,List.map_append,List.sum_append,List.sum_append]
  simp only [List.map_cons,List.map_nil,List.sum_cons,List.sum_nil]
  by_cases e:n=i
  ·subst e
   rw [if_neg (by omega),if_neg (by omega)] at ih
   rw [if_pos rfl,if_pos (by omega),if_pos (by omega)]
   omega
  rw [if_neg e]
  by_cases g:i<n
  ·rw [if_pos g,if_pos g] at ih
   rw [if_pos (by omega),if_pos (by omega)]
   omega
  rw [if_neg g,if_neg g] at ih
  rw [if_neg (by omega),if_neg (by omega)]
  omega
theorem many_join {f:FunL} {b t:Nat} (h:MayJ f b t):xA (xB f b t)=xA f:=by
 rw [jZ,jZ,qW]
 obtain ⟨u,hu⟩:∃u:Nat→Nat,u=fun i=>(atF f i).phis.length+(atF f i).list.length:=⟨_,rfl⟩
 have e1:((List.range f.blocks.length).map fun i=>(atF (xB f b t) i).phis.length+(atF (xB f b t) i).list.length)=(List.range f.blocks.length).map fun j=>if j=t then 0 else if j=b then u b+u t else u j:=by
  refine List.map_congr_left fun i hi=>?_
  have hi:=List.mem_range.1 hi
  rw [vK hi h.hb h.ht]
  by_cases e:i=t
  ·rw [if_pos e,if_pos e];rfl
  rw [if_neg e,if_neg e]
  by_cases e2:i=b
  ·subst e2
   simp only [if_true,yn,List.length_map,List.length_append,hu]
   have hp:(atF f t).phis=[]:=by rw [qN h.ht];exact h.phi
   rw [hp]
   simp
   omega
  simp only [if_neg e2,yn,List.length_map,hu]
 have e2:((List.range f.blocks.length).map fun i=>(atF f i).phis.length+(atF f i).list.length)=(List.range f.blocks.length).map u:=by rw [hu]
 rw [e1,e2]
 have s1:=Zi (fun j=>if j=b then u b+u t else u j) 0 t f.blocks.length
 have s2:=Zi u (u b+u t) b f.blocks.length
 rw [if_pos h.ht,if_pos h.ht,if_neg h.ne] at s1
 rw [if_pos h.hb,if_pos h.hb] at s2
 omega

theorem FunC.join {nf:Nat} {P:Nat→Int} {f:FunL} (hc:FunC nf P f) {b t:Nat} (h:MayJ f b t):FunC nf P (xB f b t):=by
 have hf:=hc.funD
 have hj:=hf.join h
 have hL:=qW f b t
 have fin:∀i,i<f.blocks.length→EndC f.regs f.blocks.length (atF f i).fin:=fun i hi=>by rw [qN hi];exact hc.fin i hi
 refine ⟨hj.n1,hj.n40,hc.par,hc.reg,by rw [many_join h];exact hc.many,fun i hi=>?_,fun i hi p hp=>?_,fun i hi x hx=>?_⟩
 ·show EndC f.regs _ _
  rw [←qN hi,qW]
  rw [hL] at hi
  rw [vK hi h.hb h.ht]
  by_cases e:i=t
  ·rw [if_pos e]
   exact ⟨⟨by decide,by decide⟩,rfl,by simp [kY],by simp [kY],by simp [kY],fun g=>by cases g⟩
  rw [if_neg e]
  show EndC _ _ (if i=b then _ else _)
  split
  ·exact fin t h.ht
  exact fin i hi
 ·rw [←qN hi] at hp
  rw [hL] at hi
  rw [vK hi h.hb h.ht] at hp
  by_cases e:i=t
  ·rw [if_pos e] at hp;cases hp
  rw [if_neg e] at hp
  have hp:p∈yn f b t i:=hp
  obtain ⟨q,hq,rfl⟩:=List.mem_map.1 hp
  rw [qN hi] at hq
  have hq:=hc.phi i hi q hq
  have e2:=join_phi hf h e hq.len
  have e3:(if (i:Int)∈(atF f t).fin.to then { q with src:=QF (insN f i) t b q.src } else q)={ q with src:=(insN (xB f b t) i).map fun a=>ZE (insN f i) q.src (if (i:Int)∈tosB f.blocks t∧a=b then t else a) }:=by
   rw [←QN f h.ht,←e2]
   split<;>rfl
  rw [e3]
  refine ⟨hq.blk,hq.dst,by simp,fun v hv=>?_⟩
  obtain ⟨a,ha,rfl⟩:=List.mem_map.1 hv
  have hm:(if (i:Int)∈tosB f.blocks t∧a=b then t else a)∈insN f i:=by
   rw [XB hf h e] at ha
   by_cases hc2:(i:Int)∈tosB f.blocks t
   ·rw [if_pos hc2] at ha
    rcases ha with g|g
    ·rw [if_pos ⟨hc2,g⟩]
     exact hf.mem.2 ⟨h.ht,hc2⟩
    split
    ·exact hf.mem.2 ⟨h.ht,hc2⟩
    exact g.2
   rw [if_neg hc2] at ha
   rw [if_neg fun g=>hc2 g.1]
   exact ha
  refine hq.src _ ?_
  unfold ZE
  obtain ⟨k1,k2⟩:=xE hm
  have hlt:(insN f i).idxOf (if (i:Int)∈tosB f.blocks t∧a=b then t else a)<q.src.length:=by rw [hq.len];exact k1
  rw [List.getD_eq_getElem?_getD,List.getElem?_eq_getElem hlt]
  exact List.getElem_mem _
 rw [←qN hi] at hx
 rw [hL] at hi
 rw [vK hi h.hb h.ht] at hx
 have ins:∀i,i<f.blocks.length→∀x∈(atF f i).list,jT f.regs nf P x.op x.dst x.an x.bn x.fn x.ar x.br x.args=0:=fun i hi=>by rw [qN hi];exact hc.ins i hi
 by_cases e:i=t
 ·rw [if_pos e] at hx;cases hx
 rw [if_neg e] at hx
 have hx:x∈(if i=b then (atF f b).list++(atF f t).list else (atF f i).list):=hx
 split at hx
 ·rcases List.mem_append.1 hx with g|g
  ·exact ins b h.hb x g
  exact ins t h.ht x g
 exact ins i hi x hx

theorem FunC.chain {nf:Nat} {P:Nat→Int}:∀(c:Nat) {f:FunL} {b:Nat},FunC nf P f→b<f.blocks.length→FunC nf P (zj c f b)∧(zj c f b).blocks.length=f.blocks.length
 | 0,_,_,h,_=>⟨h,rfl⟩
 | c+1,f,b,h,hb=>by
  unfold zj
  cases e:ZR f b with
  | none=>exact ⟨h,rfl⟩
  | some t=>
   obtain ⟨h1,h2⟩:=FunC.chain c (h.join (mayJ h hb e)) (b:=b) (by rw [qW];exact hb)
   exact ⟨h1,by rw [h2,qW]⟩
theorem FunC.chains {nf:Nat} {P:Nat→Int} {f:FunL} (h:FunC nf P f):FunC nf P (zh f):=by
 unfold zh
 have key:∀(l:List Nat) (g:FunL) (c:Nat),(∀b∈l,b<f.blocks.length)→FunC nf P g→g.blocks.length=f.blocks.length→FunC nf P (l.foldl (fun g b=>zj c g b) g):=by
  intro l
  induction l with
  | nil=>intro g c _ h _;exact h
  | cons b l ih=>
   intro g c hl hg hn
   obtain ⟨h1,h2⟩:=hg.chain c (b:=b) (by rw [hn];exact hl b (.head _))
   exact ih _ c (fun x hx=>hl x (.tail _ hx)) h1 (h2.trans hn)
 exact key _ f _ (fun b hb=>List.mem_range.1 hb) h rfl

structure InsC (regs:Int) (nf:Nat) (P:Nat→Int) (x:InsL):Prop where
 op:1≤x.op∧x.op≤22
 d0:shD x.op=false→x.dst = -1
 a0:shA x.op=false→x.ar=false∧x.an=0
 b0:shB x.op=false→x.br=false∧x.bn=0
 c0:x.op≠20→x.fn=0∧x.args.length=0
 d1:shD x.op=true→¬(x.op=20∧x.dst = -1)→0≤x.dst∧x.dst<regs
 a:ju regs x.ar x.an
 b:ju regs x.br x.bn
 call:x.op=20→(0≤x.fn∧x.fn<(nf:Int))∧(x.args.length:Int)=P x.fn.toNat∧∀v∈x.args,ju regs v.1 v.2
theorem dstE_iff {regs n:Int}:vx regs n=0↔0≤n∧n<regs:=by
 unfold vx
 split
 ·exact ⟨fun _=>by omega,fun _=>rfl⟩
 exact ⟨fun g=>absurd g (by decide),fun g=>by omega⟩
theorem callE_iff {regs:Int} {nf:Nat} {P:Nat→Int} {op fn:Int} {L:List (Bool×Int)}:xS regs nf P (op == 20) fn L=0↔(op=20→(0≤fn∧fn<(nf:Int))∧(L.length:Int)=P fn.toNat∧∀v∈L,ju regs v.1 v.2):=by
 unfold xS
 by_cases h:op=20
 ·rw [if_neg (by simp [h])]
  by_cases h1:0≤fn∧fn<(nf:Int)
  ·rw [if_neg (by simpa using h1)]
   by_cases h2:(L.length:Int)=P fn.toNat
   ·rw [if_neg (by simpa using h2)]
    unfold valsE
    rw [Qj]
    exact ⟨fun g _=>⟨h1,h2,fun v hv=>valE_iff.1 (g _ (List.mem_map.2 ⟨v,hv,rfl⟩))⟩,fun g y hy=>by
     obtain ⟨v,hv,rfl⟩:=List.mem_map.1 hy
     exact valE_iff.2 ((g h).2.2 v hv)⟩
   rw [if_pos h2]
   exact ⟨fun g=>absurd g (by decide),fun g=>absurd (g h).2.1 h2⟩
  rw [if_pos h1]
  exact ⟨fun g=>absurd g (by decide),fun g=>absurd (g h).1 h1⟩
 rw [if_pos (by simpa using h)]
 exact ⟨fun _ g=>absurd g h,fun _=>rfl⟩
theorem insC_iff {regs:Int} {nf:Nat} {P:Nat→Int} {x:InsL}:jT regs nf P x.op x.dst x.an x.bn x.fn x.ar x.br x.args=0↔InsC regs nf P x:=by
 unfold jT
 by_cases h1:1≤x.op∧x.op≤22
 rotate_left
 ·rw [if_pos h1]
  exact ⟨fun g=>absurd g (by decide),fun g=>absurd g.op h1⟩
 rw [if_neg (by simpa using h1)]
 by_cases h2:(shD x.op=false∧x.dst≠-1)∨(shA x.op=false∧¬(x.ar=false∧x.an=0))∨(shB x.op=false∧¬(x.br=false∧x.bn=0))∨(x.op≠20∧(x.fn≠0∨0<x.args.length))
 ·rw [if_pos h2]
  refine ⟨fun g=>absurd g (by decide),fun g=>?_⟩
  rcases h2 with h|h|h|h
  ·exact absurd (g.d0 h.1) h.2
  ·exact absurd (g.a0 h.1) h.2
  ·exact absurd (g.b0 h.1) h.2
  have:=g.c0 h.1
  have:=h.2
  omega
 rw [if_neg h2]
 by_cases h3:shD x.op=true∧¬(x.op=20∧x.dst = -1)∧vx regs x.dst≠0
 ·rw [if_pos h3]
  exact ⟨fun g=>absurd g h3.2.2,fun g=>absurd (dstE_iff.2 (g.d1 h3.1 h3.2.1)) h3.2.2⟩
 rw [if_neg h3,Qj]
 constructor
 ·intro g
  refine ⟨h1,fun e=>?_,fun e=>?_,fun e=>?_,fun e=>?_,fun e1 e2=>?_,valE_iff.1 (g _ (by simp)),valE_iff.1 (g _ (by simp)),callE_iff.1 (g _ (by simp))⟩
  ·exact Classical.byContradiction fun k=>h2 (.inl ⟨e,k⟩)
  ·exact Classical.byContradiction fun k=>h2 (.inr (.inl ⟨e,k⟩))
  ·exact Classical.byContradiction fun k=>h2 (.inr (.inr (.inl ⟨e,k⟩)))
  ·refine Classical.byContradiction fun k=>h2 (.inr (.inr (.inr ⟨e,?_⟩)))
   omega
  exact dstE_iff.1 (Classical.byContradiction fun k=>h3 ⟨e1,e2,k⟩)
 intro g y hy
 simp only [List.mem_cons,List.not_mem_nil,or_false] at hy
 rcases hy with rfl|rfl|rfl
 ·exact valE_iff.2 g.a
 ·exact valE_iff.2 g.b
 exact callE_iff.2 g.call
/-! ## names as registers are met -/

def Jy (L:List Nat):List Nat:=L.foldl (fun D r=>if r∈D then D else D++[r]) []
def stD (D:List Nat):NamS:=(qE D,(D.length:Int))
theorem nameS_st {D:List Nat} {r:Nat}:jz (stD D) r=stD (if r∈D then D else D++[r]):=by
 unfold jz stD
 by_cases h:r∈D
 ·rw [if_neg (by show ¬ qE D r<0;rw [xW h];omega),if_pos h]
 have e:qE D r = -1:=by unfold qE;rw [if_neg h]
 rw [if_pos (by show qE D r<0;omega),if_neg h]
 refine Prod.ext (funext fun i=>?_) (by simp)
 show (if i=r then (D.length:Int) else qE D i)=qE (D++[r]) i
 unfold qE
 by_cases e2:i=r
 ·subst e2
  rw [if_pos rfl,if_pos (by simp),List.idxOf_append,if_neg h]
  simp
 rw [if_neg e2]
 by_cases e3:i∈D
 ·rw [if_pos e3,if_pos (by simp [e3]),List.idxOf_append,if_pos e3]
 rw [if_neg e3,if_neg (by simp [e2,e3])]
theorem ZX (L:List Nat):∀D,L.foldl jz (stD D)=stD (L.foldl (fun D r=>if r∈D then D else D++[r]) D):=by
 induction L with
 | nil=>intro D;rfl
 | cons r L ih=>intro D;rw [List.foldl_cons,List.foldl_cons,nameS_st,ih]
theorem jP {L:List Nat}:∀{D:List Nat},D.Nodup→(L.foldl (fun D r=>if r∈D then D else D++[r]) D).Nodup∧(∃E,L.foldl (fun D r=>if r∈D then D else D++[r]) D=D++E)∧∀r,r∈L.foldl (fun D r=>if r∈D then D else D++[r]) D↔r∈D∨r∈L:=by
 induction L with
 | nil=>intro D h;exact ⟨h,⟨[],by simp⟩,by simp⟩
 | cons x L ih=>
  intro D h
  rw [List.foldl_cons]
  by_cases hx:x∈D
  ·rw [if_pos hx]
   obtain ⟨h1,h2,h3⟩:=ih h
   refine ⟨h1,h2,fun r=>?_⟩
   rw [h3,List.mem_cons]
   constructor
   ·rintro (g|g);exact .inl g;exact .inr (.inr g)
   rintro (g|g|g);exact .inl g;exact .inl (g ▸ hx);exact .inr g
  rw [if_neg hx]
  obtain ⟨h1,⟨E,h2⟩,h3⟩:=ih (D:=D++[x]) (List.nodup_append.2 ⟨h,by simp,fun a ha b hb e=>by rw [List.mem_singleton] at hb;exact hx (hb ▸ e ▸ ha)⟩)
  refine ⟨h1,⟨x::E,by rw [h2];simp⟩,fun r=>?_⟩
  rw [h3]
  simp [or_assoc]
theorem Jz (n:Nat) (M:List Nat):∃E,Jy (List.range n++M)=List.range n++E:=by
 unfold Jy
 rw [List.foldl_append]
 have e:∀n,(List.range n).foldl (fun D r=>if r∈D then D else D++[r]) []=List.range n:=by
  intro n
  induction n with
  | zero=>rfl
  | succ n ih=>rw [List.range_succ,List.foldl_append,ih,List.foldl_cons,List.foldl_nil,if_neg (by simp)]
 rw [e]
 exact (jP List.nodup_range).2.1
theorem nam0_st:nam0=stD []:=by
 unfold nam0 stD qE
 simp
def XU (f:FunL):List Nat:=Jy (QL f++Jo f)
theorem namF_is (f:FunL):namF f=stD (XU f):=by
 unfold namF XU Jy
 rw [nam0_st,ZX]
theorem yo (f:FunL):(XU f).Nodup:=(jP (D:=[]) List.nodup_nil).1
theorem metL_mem {f:FunL} {r:Nat}:r∈XU f↔r∈QL f++Jo f:=by
 have:=(jP (L:=QL f++Jo f) (D:=[]) List.nodup_nil).2.2 r
 simpa [XU,Jy] using this

theorem QO {f:FunL} {b:Nat} (hb:b<f.blocks.length) {r:Nat} (h:r∈yc f.blocks[b]):r∈XU f:=
 metL_mem.2 (List.mem_append_right _ (List.mem_flatMap.2 ⟨_,List.getElem_mem hb,h⟩))
theorem k5 {v:Bool×Int} (h:v.1=true):v.2.toNat∈xJ v:=by unfold xJ;rw [if_pos h];simp
theorem metV_is {v:Bool×Int} {r:Nat} (h:r∈xJ v):v.1=true∧r=v.2.toNat:=by
 unfold xJ at h
 split at h
 ·rename_i e;exact ⟨e,List.mem_singleton.1 h⟩
 cases h
theorem metC_fin {x:BlkL} (h:x.fin.onr=true):x.fin.onn.toNat∈yc x:=List.mem_append_right _ (k5 (v:=(x.fin.onr,x.fin.onn)) h)
theorem metC_dst {x:BlkL} {p:PhiL} (h:p∈x.phis):p.dst.toNat∈yc x:=List.mem_append_left _ (List.mem_append_left _ (List.mem_flatMap.2 ⟨p,h,List.mem_cons_self⟩))
theorem metC_src {x:BlkL} {p:PhiL} (h:p∈x.phis) {v:Bool×Int} (hv:v∈p.src) (e:v.1=true):v.2.toNat∈yc x:=
 List.mem_append_left _ (List.mem_append_left _ (List.mem_flatMap.2 ⟨p,h,List.mem_cons_of_mem _ (List.mem_flatMap.2 ⟨v,hv,k5 e⟩)⟩))
theorem metC_ins {x:BlkL} {i:InsL} (h:i∈x.list) {r:Nat} (hr:r∈Qv i++vW i.dst):r∈yc x:=
 List.mem_append_left _ (List.mem_append_right _ (List.mem_flatMap.2 ⟨i,h,hr⟩))

theorem FunC.met {nf:Nat} {P:Nat→Int} {f:FunL} (h:FunC nf P f) {r:Nat} (hr:r∈XU f):(r:Int)<f.regs:=by
 have hp:=h.par
 have hg:=h.reg
 have val:∀{v:Bool×Int},ju f.regs v.1 v.2→r∈xJ v→(r:Int)<f.regs:=fun hv hm=>by
  obtain ⟨e1,e2⟩:=metV_is hm
  have:=hv e1
  omega
 have dst:∀{d:Int},d<f.regs→r∈vW d→(r:Int)<f.regs:=fun hd hm=>by
  unfold vW at hm
  split at hm
  ·have:=List.mem_singleton.1 hm;omega
  cases hm
 have ins:∀b (hb:b<f.blocks.length),∀i∈f.blocks[b].list,r∈Qv i++vW i.dst→(r:Int)<f.regs:=fun b hb i hi hm=>by
  have hc:=insC_iff.1 (h.ins b hb i hi)
  have hdst:i.dst<f.regs:=by
   by_cases e:shD i.op=true∧¬(i.op=20∧i.dst = -1)
   ·exact (hc.d1 e.1 e.2).2
   by_cases e2:shD i.op=true
   ·have e3:i.op=20∧i.dst = -1:=Classical.byContradiction fun g=>e ⟨e2,g⟩
    omega
   have:=hc.d0 (by simpa using e2)
   omega
  rcases List.mem_append.1 hm with g|g
  ·unfold Qv at g
   rcases List.mem_append.1 g with g|g
   ·rcases List.mem_append.1 g with g|g
    ·exact val hc.a g
    exact val hc.b g
   obtain ⟨v,hv,g⟩:=List.mem_flatMap.1 g
   by_cases e:i.op=20
   ·exact val ((hc.call e).2.2 v hv) g
   have:=(hc.c0 e).2
   rw [List.eq_nil_of_length_eq_zero this] at hv
   cases hv
  exact dst hdst g
 have phi:∀b (hb:b<f.blocks.length),∀p∈f.blocks[b].phis,(p.dst<f.regs∧0≤p.dst)∧∀v∈p.src,ju f.regs v.1 v.2:=fun b hb p hp=>⟨⟨(h.phi b hb p hp).dst.2,(h.phi b hb p hp).dst.1⟩,(h.phi b hb p hp).src⟩
 rcases List.mem_append.1 (metL_mem.1 hr) with g|g
 ·unfold QL at g
  rcases List.mem_append.1 g with g|g
  ·have:=List.mem_range.1 g;omega
  obtain ⟨x,hx,g⟩:=List.mem_flatMap.1 g
  obtain ⟨b,hb,rfl⟩:=List.mem_iff_getElem.1 hx
  unfold metB at g
  rcases List.mem_append.1 g with g|g
  ·rcases List.mem_append.1 g with g|g
   ·obtain ⟨p,hp,rfl⟩:=List.mem_map.1 g
    have:=(phi b hb p hp).1
    omega
   obtain ⟨i,hi,g⟩:=List.mem_flatMap.1 g
   exact ins b hb i hi g
  exact val (h.fin b hb).on g
 unfold Jo at g
 obtain ⟨x,hx,g⟩:=List.mem_flatMap.1 g
 obtain ⟨b,hb,rfl⟩:=List.mem_iff_getElem.1 hx
 unfold yc at g
 rcases List.mem_append.1 g with g|g
 ·rcases List.mem_append.1 g with g|g
  ·obtain ⟨p,hp,g⟩:=List.mem_flatMap.1 g
   rcases List.mem_cons.1 g with rfl|g
   ·have:=(phi b hb p hp).1
    omega
   obtain ⟨v,hv,g⟩:=List.mem_flatMap.1 g
   exact val ((phi b hb p hp).2 v hv) g
  obtain ⟨i,hi,g⟩:=List.mem_flatMap.1 g
  exact ins b hb i hi g
 exact val (h.fin b hb).on g

theorem xw (f:FunL):(ja f).blocks.length=f.blocks.length:=by simp [ja]
theorem XC {f:FunL} {b:Nat} (h:b<(ja f).blocks.length):(ja f).blocks[b]=renB (namF f).1 (f.blocks[b]'(by rw [←xw f];exact h)):=by simp [ja]
theorem name_ins (f:FunL) (c:Nat):insN (ja f) c=insN f c:=by
 have e:kt (ja f)=kt f:=by
  unfold kt ja
  rw [List.map_map]
  rfl
 unfold insN xm
 rw [e,xw]
theorem Zj (f:FunL):(ja f).regs=((XU f).length:Int):=by
 show (namF f).2=_
 rw [namF_is];rfl
theorem XD {f:FunL} {r:Nat} (h:r∈XU f):0≤(namF f).1 r∧(namF f).1 r<(ja f).regs:=by
 rw [Zj,namF_is]
 obtain ⟨h1,_⟩:=xE h
 show 0≤qE (XU f) r∧qE (XU f) r<_
 rw [xW h]
 omega

theorem FunC.name {nf:Nat} {P:Nat→Int} {f:FunL} (h:FunC nf P f):FunC nf P (ja f):=by
 have hp:=h.par
 have hg:=h.reg
 have hle:((XU f).length:Int)≤f.regs:=by
  have:=xM f.regs.toNat (XU f) (yo f) (fun x hx=>by have:=h.met hx;omega)
  omega
 have hge:f.params≤((XU f).length:Int):=by
  obtain ⟨E,hE⟩:=Jz f.params.toNat (f.blocks.flatMap metB++Jo f)
  have:XU f=List.range f.params.toNat++E:=by
   unfold XU QL
   rw [List.append_assoc]
   exact hE
  rw [this,List.length_append,List.length_range]
  omega
 have ren:∀{v:Bool×Int},(v.1=true→v.2.toNat∈XU f)→ju (ja f).regs (xk (namF f).1 v).1 (xk (namF f).1 v).2:=fun {v} hv e=>by
  unfold xk at e ⊢
  by_cases e1:v.1=true
  ·rw [if_pos e1] at e ⊢
   exact XD (hv e1)
  rw [if_neg e1] at e
  exact absurd e e1
 have many:xA (ja f)=xA f:=by
  unfold xA ja
  rw [List.map_map]
  congr 1
  exact List.map_congr_left fun b _=>by simp [renB]
 have eq1:∀(r:Bool) (n:Int),(xk (namF f).1 (r,n)).1=r:=fun r n=>by
  unfold xk
  cases r<;>rfl
 refine ⟨by rw [xw];exact h.n1,by rw [xw];exact h.n40,hp,⟨by rw [Zj];exact hge,by rw [Zj];omega⟩,by rw [many];exact h.many,fun b hb=>?_,fun b hb p hp=>?_,fun b hb x hx=>?_⟩
 ·have hb':b<f.blocks.length:=by rw [←xw f];exact hb
  have hf:=h.fin b hb'
  rw [XC hb]
  refine ⟨hf.kind,hf.len,fun t ht=>by have e:=hf.to t ht;have e2:=xw f;exact ⟨e.1,by omega⟩,hf.two,fun e=>?_,?_⟩
  ·have:=hf.jump e
   refine ⟨this.1,?_⟩
   show (xk _ (_,_)).2=0
   unfold xk
   rw [if_neg (by rw [this.1];simp)]
   exact this.2
  have:=ren (v:=(f.blocks[b].fin.onr,f.blocks[b].fin.onn)) fun e=>QO hb' (metC_fin e)
  rw [eq1] at this
  exact this
 ·have hb':b<f.blocks.length:=by rw [←xw f];exact hb
  rw [XC hb] at hp
  obtain ⟨q,hq,rfl⟩:=List.mem_map.1 hp
  have hc:=h.phi b hb' q hq
  refine ⟨hc.blk,XD (QO hb' (metC_dst hq)),by rw [name_ins];simpa using hc.len,fun v hv=>?_⟩
  obtain ⟨w,hw,rfl⟩:=List.mem_map.1 hv
  exact ren fun e=>QO hb' (metC_src hq hw e)
 have hb':b<f.blocks.length:=by rw [←xw f];exact hb
 rw [XC hb] at hx
 obtain ⟨y,hy,rfl⟩:=List.mem_map.1 hx
 have hc:=insC_iff.1 (h.ins b hb' y hy)
 have mem:∀{r:Nat},r∈Qv y++vW y.dst→r∈XU f:=fun hr=>QO hb' (metC_ins hy hr)
 refine insC_iff.2 ⟨hc.op,fun e=>?_,fun e=>?_,fun e=>?_,fun e=>?_,fun e1 e2=>?_,?_,?_,fun e=>?_⟩
 ·show (if 0≤y.dst then _ else y.dst) = -1
  have:=hc.d0 e
  rw [if_neg (by omega)]
  exact this
 ·have:=hc.a0 e
  refine ⟨this.1,?_⟩
  show (xk _ (_,_)).2=0
  unfold xk
  rw [if_neg (by rw [this.1];simp)]
  exact this.2
 ·have:=hc.b0 e
  refine ⟨this.1,?_⟩
  show (xk _ (_,_)).2=0
  unfold xk
  rw [if_neg (by rw [this.1];simp)]
  exact this.2
 ·have:=hc.c0 e
  exact ⟨this.1,by simpa [kZ] using this.2⟩
 ·show 0≤(if 0≤y.dst then _ else y.dst)∧(if 0≤y.dst then _ else y.dst)<_
  by_cases e3:0≤y.dst
  ·rw [if_pos e3]
   exact XD (mem (List.mem_append_right _ (by unfold vW;rw [if_pos e3];simp)))
  refine absurd (hc.d1 e1 fun g=>e2 ⟨g.1,?_⟩).1 e3
  show (if 0≤y.dst then _ else y.dst) = -1
  rw [if_neg e3]
  exact g.2
 ·have:=ren (v:=(y.ar,y.an)) fun e=>mem (List.mem_append_left _ (List.mem_append_left _ (List.mem_append_left _ (k5 e))))
  rw [eq1] at this
  exact this
 ·have:=ren (v:=(y.br,y.bn)) fun e=>mem (List.mem_append_left _ (List.mem_append_left _ (List.mem_append_right _ (k5 e))))
  rw [eq1] at this
  exact this
 have:=hc.call e
 refine ⟨this.1,by simpa [kZ] using this.2.1,fun v hv=>?_⟩
 obtain ⟨w,hw,rfl⟩:=List.mem_map.1 hv
 exact ren fun e=>mem (List.mem_append_left _ (List.mem_append_right _ (List.mem_flatMap.2 ⟨w,hw,k5 e⟩)))

theorem FunC.order {nf:Nat} {P:Nat→Int} {f:FunL} (h:FunC nf P f):FunC nf P (Zy f):=h.keep h.funD.toFunS.ordC
theorem FunC.names {nf:Nat} {P:Nat→Int} {f:FunL} (h:FunC nf P f):FunC nf P (jq f):=h.order.name
theorem FunC.done {nf:Nat} {P:Nat→Int} {f:FunL} (h:FunC nf P f):FunC nf P (doT f):=h.order.chains.names

theorem ChkOk.funC {u:UniL} (h:ChkOk u) {k:Nat} (hk:k<u.funcs.length):FunC u.funcs.length (Zx u) u.funcs[k]:=by
 obtain ⟨h1,h2,h3,h4⟩:=h.fn hk
 refine ⟨by omega,by omega,h1,h2,h4,fun b hb=>endC_iff.1 (kW (h.bodyZ hk) hb),fun b hb p hp=>phiC_iff.1 ((kX (h.bodyZ hk) hb).1 p hp),fun b hb x hx=>(kX (h.bodyZ hk) hb).2 x hx⟩
theorem FunC.body {u:UniL} {f:FunL} (h:FunC u.funcs.length (Zx u) f):vj u f=0:=by
 have h1:qC (f.blocks.map fun b=>JW f b.fin)=0:=zl fun x hx=>by
  obtain ⟨b,hb,rfl⟩:=List.mem_map.1 hx
  obtain ⟨i,hi,rfl⟩:=List.mem_iff_getElem.1 hb
  exact endC_iff.2 (h.fin i hi)
 unfold vj
 rw [if_pos h1]
 refine zl fun x hx=>?_
 obtain ⟨i,hi,rfl⟩:=List.mem_map.1 hx
 have hi:=List.mem_range.1 hi
 rw [QW hi]
 have h2:qC (f.blocks[i].phis.map (Xe f i (qS (xm f) i).length))=0:=zl fun x hx=>by
  obtain ⟨p,hp,rfl⟩:=List.mem_map.1 hx
  exact phiC_iff.2 (h.phi i hi p hp)
 unfold blkE
 rw [if_pos h2]
 refine zl fun x hx=>?_
 obtain ⟨p,hp,rfl⟩:=List.mem_map.1 hx
 exact h.ins i hi p hp
theorem headE_of {names:List ByteArray} {f g:FunL} (h:vA names f=0) (hn:g.name=f.name) {nf:Nat} {P:Nat→Int} (hg:FunC nf P g):vA names g=0:=by
 unfold vA at h ⊢
 rw [hn]
 by_cases a:vy f.name=false
 ·rw [if_pos a] at h;cases h
 rw [if_neg a] at h ⊢
 by_cases b:JV names f.name=true
 ·rw [if_pos b] at h;cases h
 rw [if_neg b]
 have h1:=hg.par
 have h2:=hg.reg
 have h3:=hg.n1
 have h4:=hg.n40
 have h5:=hg.many
 rw [if_neg (by omega),if_neg (by omega)]

def mainO (o:Option FunL):Bool:=match o with|some f=>Q8 f|none=>false
theorem mainI_o (xs:List FunL):kb xs=(List.range xs.length).find? fun i=>mainO xs[i]?:=rfl
theorem ChkOk.same {u v:UniL} (h:ChkOk u) (hg:v.globals=u.globals) (hl:v.funcs.length=u.funcs.length) (hf:∀k (hk:k<u.funcs.length),v.funcs[k].name=u.funcs[k].name∧v.funcs[k].params=u.funcs[k].params∧FunC u.funcs.length (Zx u) v.funcs[k]):chk v=(0,0)∧ChkOk v:=by
 have hp:Zx v=Zx u:=by
  funext k
  unfold Zx
  congr 1
  refine List.ext_getElem (by simp [hl]) fun i h1 h2=>?_
  simp only [List.getElem_map]
  exact (hf i (by simpa using h2)).2.1
 have hN:∀k,k≤u.funcs.length→j3 v k=j3 u k:=fun k hk=>by
  unfold j3
  rw [hg]
  congr 1
  refine List.ext_getElem (by simp [hl]) fun i h1 h2=>?_
  simp only [List.getElem_map,List.getElem_take]
  exact (hf i (by simp at h2;omega)).1
 have e1:∀j,j<v.globals.length→J7 v j=0:=fun j hj=>by
  have:J7 v j=J7 u j:=by
   unfold J7 jn jm
   rw [hg]
  rw [this]
  exact h.glo j (by rw [←hg];exact hj)
 have e2:∀j,j<v.funcs.length→kL v j=0:=fun j hj=>by
  have hj':j<u.funcs.length:=by omega
  rw [kN hj,hN j (by omega)]
  exact headE_of ((kN hj').symm.trans (h.head j hj')) (hf j hj').1 (hf j hj').2.2
 have e3:∀j,j<v.funcs.length→Q7 v j=0:=fun j hj=>by
  have hj':j<u.funcs.length:=by omega
  rw [Xg hj]
  refine FunC.body ?_
  rw [hp,hl]
  exact (hf j hj').2.2
 have e4:kb v.funcs=kb u.funcs:=by
  rw [mainI_o,mainI_o,hl]
  congr 1
  funext i
  by_cases hi:i<u.funcs.length
  ·rw [List.getElem?_eq_getElem hi,List.getElem?_eq_getElem (by omega)]
   show Q8 _=Q8 _
   unfold Q8
   rw [(hf i hi).1]
  rw [List.getElem?_eq_none (by omega),List.getElem?_eq_none (by omega)]
 obtain ⟨m,hm,hm2⟩:=h.main
 have hv:ChkOk v:=⟨by rw [hg];exact h.ng,by rw [hl];exact h.nf,e1,e2,e3,m,e4.trans hm,by rw [hp];exact hm2⟩
 refine ⟨?_,hv⟩
 rcases Jb v with g|g
 ·exact g.1
 exfalso
 apply g
 unfold chk chkO
 rw [if_neg (by have:=hv.ng;have:=hv.nf;omega),zi e1,zi e2,zi e3]
 simp only [QX]
 rw [e4.trans hm]
 simp only
 rw [if_neg (by rw [hp];omega)]
 rfl

theorem XE (f:FunL):(doT f).name=f.name∧(doT f).params=f.params:=by
 have hj:∀(f:FunL) (b t:Nat),(xB f b t).name=f.name∧(xB f b t).params=f.params:=fun f b t=>⟨rfl,rfl⟩
 have hc:∀(c:Nat) (f:FunL) (b:Nat),(zj c f b).name=f.name∧(zj c f b).params=f.params:=by
  intro c
  induction c with
  | zero=>intro f b;exact ⟨rfl,rfl⟩
  | succ c ih=>
   intro f b
   unfold zj
   split
   ·exact ⟨rfl,rfl⟩
   rename_i t _
   exact ⟨(ih _ b).1.trans (hj f b t).1,(ih _ b).2.trans (hj f b t).2⟩
 have hs:∀f:FunL,(zh f).name=f.name∧(zh f).params=f.params:=fun f=>by
  unfold zh
  generalize f.blocks.length+1=c
  have key:∀(l:List Nat) (g:FunL),(l.foldl (fun g b=>zj c g b) g).name=g.name∧(l.foldl (fun g b=>zj c g b) g).params=g.params:=by
   intro l
   induction l with
   | nil=>intro g;exact ⟨rfl,rfl⟩
   | cons b l ih=>intro g;rw [List.foldl_cons];exact ⟨(ih _).1.trans (hc c g b).1,(ih _).2.trans (hc c g b).2⟩
  exact key _ f
 have ho:∀g:FunL,(Zy g).name=g.name∧(Zy g).params=g.params:=fun g=>by unfold Zy zm;exact ⟨rfl,rfl⟩
 have hn:∀g:FunL,(ja g).name=g.name∧(ja g).params=g.params:=fun g=>by unfold ja;exact ⟨rfl,rfl⟩
 unfold doT jq
 rw [(hn _).1,(hn _).2,(ho _).1,(ho _).2,(hs _).1,(hs _).2,(ho _).1,(ho _).2]
 exact ⟨rfl,rfl⟩

theorem ChkOk.tidy {u:UniL} (h:ChkOk u):chk (xV u)=(0,0)∧ChkOk (xV u):=
 h.same rfl (by simp [xV]) fun k hk=>by
  have e:(xV u).funcs[k]'(by simp [xV];exact hk)=doT u.funcs[k]:=by simp [xV]
  rw [e]
  exact ⟨(XE _).1,(XE _).2,(h.funC hk).done⟩

def kp (f:FunL):Nat:=((List.range f.blocks.length).map fun i=>if (atF f i).fin.kind=2 then 1 else 0).sum
theorem jumps_le (f:FunL):kp f≤f.blocks.length:=by
 unfold kp
 have:∀n,((List.range n).map fun i=>if (atF f i).fin.kind=2 then 1 else 0).sum≤n:=by
  intro n
  induction n with
  | zero=>simp
  | succ n ih=>
   rw [List.range_succ,List.map_append,List.sum_append]
   simp only [List.map_cons,List.map_nil,List.sum_cons,List.sum_nil]
   split<;>omega
 exact this _
theorem JA {f:FunL} {b t:Nat} (h:ZR f b=some t):(atF f b).fin.kind=2:=by
 unfold ZR at h
 dsimp only at h
 split at h
 ·rename_i hc;exact hc.1
 cases h
theorem ZY {f:FunL} {b t:Nat} (h:MayJ f b t) (hk:(atF f b).fin.kind=2):kp (xB f b t)+1=kp f:=by
 unfold kp
 rw [qW]
 obtain ⟨u,hu⟩:∃u:Nat→Nat,u=fun i=>if (atF f i).fin.kind=2 then 1 else 0:=⟨_,rfl⟩
 have e1:((List.range f.blocks.length).map fun i=>if (atF (xB f b t) i).fin.kind=2 then 1 else 0)=(List.range f.blocks.length).map fun j=>if j=t then 0 else if j=b then u t else u j:=by
  refine List.map_congr_left fun i hi=>?_
  have hi:=List.mem_range.1 hi
  rw [vK hi h.hb h.ht]
  by_cases e:i=t
  ·rw [if_pos e,if_pos e];rfl
  rw [if_neg e,if_neg e]
  by_cases e2:i=b
  ·simp only [if_pos e2,hu]
  simp only [if_neg e2,hu]
 have e2:((List.range f.blocks.length).map fun i=>if (atF f i).fin.kind=2 then 1 else 0)=(List.range f.blocks.length).map u:=by rw [hu]
 rw [e1,e2]
 have s1:=Zi (fun j=>if j=b then u t else u j) 0 t f.blocks.length
 have s2:=Zi u (u t) b f.blocks.length
 have ub:u b=1:=by rw [hu];exact if_pos hk
 rw [if_pos h.ht,if_pos h.ht,if_neg h.ne] at s1
 rw [if_pos h.hb,if_pos h.hb,ub] at s2
 omega
theorem FunC.last {nf:Nat} {P:Nat→Int}:∀(c:Nat) {f:FunL} {b:Nat},FunC nf P f→b<f.blocks.length→kp f<c→ZR (zj c f b) b=none
 | 0,_,_,_,_,h=>by omega
 | c+1,f,b,h,hb,hj=>by
  unfold zj
  cases e:ZR f b with
  | none=>exact e
  | some t=>
   have hm:=mayJ h hb e
   have:=ZY hm (JA e)
   exact FunC.last c (h.join hm) (by rw [qW];exact hb) (by omega)


structure ChS (w:World) (gq c:Nat) (bs:List BlkL) (V:Nat→Value) (N:Blks) (L:Nat→Blks):Prop where
 row:SlO 45 6 Vs w (.slice (some ⟨gq,0,none⟩) bs.length c) (vh V bs) N
 lst:∀i (h:i<bs.length),SlQ 57 8 80 InsO w (V i) bs[i].list (L i)
 two:∀i j,i<bs.length→j<bs.length→i≠j→Apart (L i) (L j)
 off:∀i,i<bs.length→Apart N (L i)
theorem ChS.of {w:World} {gq c:Nat} {bs:List BlkL} {S:Blks} (h:SlO 45 6 BlkO w (.slice (some ⟨gq,0,none⟩) bs.length c) bs S) (_h0:0<bs.length):∃V N L,ChS w gq c bs V N L∧(∀k,N k→S k)∧∀i,i<bs.length→∀k,L i k→S k:=by
 obtain ⟨cs,T,hW⟩:=h
 have key:∀i,∃v:Value,∃A B:Blks,∀(h:i<bs.length),Vs w (cs i) (v,bs[i]) A∧SlQ 57 8 80 InsO w v bs[i].list B∧Apart A B∧(∀k,A k→T i k)∧∀k,B k→T i k:=fun i=>by
  by_cases h:i<bs.length
  ·obtain ⟨v1,v2,v3,S1,S2,S3,hcs,j1,j2,h3,h4,h5,a1,a2,a3,g1,g2,g3⟩:=hW.el i h
   obtain ⟨p,cc,hv,_⟩:=h4.sl.val
   exact ⟨v2,fun k=>S1 k∨S3 k,S2,fun _=>⟨⟨v1,v3,S1,S3,hcs,⟨p,_,cc,hv⟩,j1,j2,h3,h5,a2,fun _ h=>.inl h,fun _ h=>.inr h⟩,h4,fun k a b=>a.elim (fun a=>a1 k a b) (fun a=>a3 k b a),fun k a=>a.elim (g1 k) (g3 k),g2⟩⟩
  exact ⟨.slice none 0 0,fun _=>False,fun _=>False,fun h'=>absurd h' h⟩
 obtain ⟨V,hV⟩:=Classical.axiomOfChoice key
 obtain ⟨A,hA⟩:=Classical.axiomOfChoice hV
 obtain ⟨L,hL⟩:=Classical.axiomOfChoice hA
 have hlen:(vh V bs).length=bs.length:=xg V bs
 refine ⟨V,fun k=>k=gq∨∃i,i<bs.length∧A i k,L,⟨⟨cs,A,?_⟩,fun i h=>(hL i h).2.1,fun i j hi hj hij k a b=>hW.two i j hi hj hij k ((hL i hi).2.2.2.2 k a) ((hL j hj).2.2.2.2 k b),fun i hi k a b=>?_⟩,fun k hk=>?_,fun i hi k hk=>hW.sub i hi k ((hL i hi).2.2.2.2 k hk)⟩
 ·refine ⟨?_,?_,?_,fun i hi=>?_,?_,?_,fun g hg=>.inl (Option.some.inj hg).symm,?_,?_⟩
  ·rw [hlen];exact hW.own
  ·rw [hlen];exact hW.len
  ·rw [hlen];exact hW.one
  ·rw [xF hi]
   exact (hL i (by rw [←hlen];exact hi)).1
  ·rw [hlen]
   exact fun i j hi hj hij k a b=>hW.two i j hi hj hij k ((hL i hi).2.2.2.1 k a) ((hL j hj).2.2.2.1 k b)
  ·rw [hlen]
   exact fun i hi g hg a=>hW.off i hi g hg ((hL i hi).2.2.2.1 g a)
  ·rw [hlen]
   exact fun i hi k a=>.inr ⟨i,hi,a⟩
  rintro k (rfl|⟨i,hi,a⟩)
  ·exact (hW.own.lt k rfl).2
  exact hW.inb k (hW.sub i hi k ((hL i hi).2.2.2.1 k a))
 ·rcases a with rfl|⟨j,hj,a⟩
  ·exact hW.off i hi k rfl ((hL i hi).2.2.2.2 k b)
  by_cases e:j=i
  ·subst e
   exact (hL j hj).2.2.1 k a b
  exact hW.two j i hj hi e k ((hL j hj).2.2.2.1 k a) ((hL i hi).2.2.2.2 k b)
 rcases hk with rfl|⟨i,hi,a⟩
 ·exact hW.blk k rfl
 exact hW.sub i hi k ((hL i hi).2.2.2.1 k a)
theorem ChS.to {w:World} {gq c:Nat} {bs:List BlkL} {V:Nat→Value} {N:Blks} {L:Nat→Blks} (h:ChS w gq c bs V N L):SlO 45 6 BlkO w (.slice (some ⟨gq,0,none⟩) bs.length c) bs (fun k=>N k∨∃i,i<bs.length∧L i k):=by
 obtain ⟨⟨cs,T,hW⟩,hl,h2,ho⟩:=h
 have hlen:(vh V bs).length=bs.length:=xg V bs
 have hT:∀i,i<bs.length→∀k,T i k→N k:=fun i hi=>hW.sub i (by rw [hlen];exact hi)
 have hhD:=hW.two
 have hoff:=hW.off
 have hown:=hW.own
 have hle:=hW.len
 have hone:=hW.one
 rw [hlen] at hhD hoff hown hle hone
 refine ⟨cs,fun i k=>T i k∨L i k,⟨hown,hle,hone,fun i hi=>?_,fun i j hi hj hij k a b=>?_,fun i hi g hg a=>?_,fun g hg=>.inl (hW.blk g hg),fun i hi k a=>?_,?_⟩⟩
 ·have hi2:i<(vh V bs).length:=by rw [hlen];exact hi
  have he:=hW.el i hi2
  rw [xF hi2] at he
  obtain ⟨v1,v3,S1,S3,hcs,_,j1,j2,h3,h5,a2,g1,g3⟩:=he
  exact ⟨v1,V i,v3,S1,L i,S3,hcs,j1,j2,h3,hl i hi,h5,fun k a b=>ho i hi k (hT i hi k (g1 k a)) b,a2,fun k a b=>ho i hi k (hT i hi k (g3 k b)) a,fun k a=>.inl (g1 k a),fun k a=>.inr a,fun k a=>.inl (g3 k a)⟩
 ·rcases a with a|a<;>rcases b with b|b
  ·exact hhD i j hi hj hij k a b
  ·exact ho j hj k (hT i hi k a) b
  ·exact ho i hi k (hT j hj k b) a
  exact h2 i j hi hj hij k a b
 ·rcases a with a|a
  ·exact hoff i hi g hg a
  exact ho i hi g (hW.blk g hg) a
 ·rcases a with a|a
  ·exact .inl (hT i hi k a)
  exact .inr ⟨i,hi,a⟩
 rintro k (a|⟨i,hi,a⟩)
 ·exact hW.inb k a
 exact (hl i hi).sl.inb k a
theorem ChS.kept {U:Blks} {w w':World} {gq c:Nat} {bs:List BlkL} {V:Nat→Value} {N:Blks} {L:Nat→Blks} (h:ChS w gq c bs V N L) (hk:Kept U w w') (hN:Apart U N) (hL:∀i,i<bs.length→Apart U (L i)):ChS w' gq c bs V N L:=
 ⟨h.row.kept jA hk hN,fun i hi=>⟨(h.lst i hi).sl.kept zN hk (hL i hi),(h.lst i hi).bd⟩,h.two,h.off⟩
theorem ChS.below {w w':World} {gq c:Nat} {bs:List BlkL} {V:Nat→Value} {N:Blks} {L:Nat→Blks} (h:ChS w gq c bs V N L) (hb:Below w.heap.size w w'):ChS w' gq c bs V N L:=h.kept (U:=fun _=>False) (Kept.of_below hb) (fun _ a _=>a) (fun _ _ _ a _=>a)
theorem ZZ:∀{l:List Nat} {x:Nat},x∈l→x≤l.sum
 | y::l,x,h=>by
  rw [List.sum_cons]
  rcases List.mem_cons.1 h with rfl|h
  ·omega
  have:=ZZ h
  omega
theorem JB {f:FunL} {b:Nat} (h:b<f.blocks.length):f.blocks[b].list.length≤xA f:=by
 rw [jZ]
 have:=ZZ (l:=(List.range f.blocks.length).map fun b=>(atF f b).phis.length+(atF f b).list.length) (List.mem_map.2 ⟨b,List.mem_range.2 h,rfl⟩)
 rw [qN h] at this
 omega
theorem ChS.at {w:World} {gq c:Nat} {bs:List BlkL} {V:Nat→Value} {N:Blks} {L:Nat→Blks} (h:ChS w gq c bs V N L) {i:Nat} (hi:i<bs.length):∃q1 d1 p2 d2 q3 d3,V i = .slice p2 bs[i].list.length d2∧(∀j,j<6→w.cell? ⟨gq,i*6+j,none⟩=[Value.slice q1 bs[i].phis.length d1,.slice p2 bs[i].list.length d2,.int .i64 bs[i].fin.kind,.bool bs[i].fin.onr,.int .i64 bs[i].fin.onn,.slice q3 bs[i].fin.to.length d3][j]?)∧N gq∧gq<w.heap.size∧(∀o,w.frozen? ⟨gq,o,none⟩=false)∧
  SliceAt w 1 vi q3 bs[i].fin.to:=by
 obtain ⟨p2,d2,hv,_⟩:=(h.lst i hi).sl.val
 have hi2:i<(vh V bs).length:=by rw [xg];exact hi
 obtain ⟨g,cc,cs,T,hgv,hg,hS,hl,hx,_,_,hc,hf,_⟩:=h.row.focus jA (by omega) hi2
 have hgg:g=gq:=by
  injection hgv with a _ _
  injection a with a
  injection a with a
  exact a.symm
 subst hgg
 rw [xF hi2] at hx
 obtain ⟨v1,v3,S1,S3,rfl,_,_,_,h3,h5,_⟩:=hx
 obtain ⟨q1,d1,rfl,_⟩:=h3.sl.val
 obtain ⟨q3,d3,rfl,_⟩:=h5.sl.val
 dsimp only at hc h5
 rw [hv] at hc
 have hr:=h5.read (R':=vi) zM (by omega) fun _ _ _ h=>h
 refine ⟨q1,d1,p2,d2,q3,d3,hv,hc,hS,hg,hf,?_⟩
 obtain ⟨_,_,e,_,_,hh⟩:=hr.outC
 cases e
 exact hh
end Go.Proofs.YtbnnhmcloecijaaGreatDoor
