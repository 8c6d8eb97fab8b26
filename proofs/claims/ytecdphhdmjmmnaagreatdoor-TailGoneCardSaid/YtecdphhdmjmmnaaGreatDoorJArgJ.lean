/-
  The contracts of calls.Many and calls.Fits.
-/
import Derived.Test.YtecdphhdmjmmnaaGreatDoorJTidP
set_option maxRecDepth 100000
set_option maxHeartbeats 16000000
namespace Go.Proofs.YtecdphhdmjmmnaaGreatDoor
open Go.RowKit

def zC (k:Nat) (b:BlkL):Option InsL:=
 match b.list.getLast? with
 | some x=>if b.fin.kind=1∧b.fin.onr=true∧x.op=20∧x.fn=(k:Int)∧x.dst=b.fin.onn then some x else none
 | none=>none
def zd (k:Nat) (b:BlkL):Bool:=(zC k b).isSome
def Z5 (d:Int) (v:Bool×Int):InsL:=⟨1,d,v.1,v.2,false,0,0,[]⟩
def Qw:BlkL:=⟨[],[],⟨2,false,0,[1]⟩⟩
def kP (R:Int) (c:InsL):List InsL:=(c.args.mapIdx fun p v=>Z5 (R+(p:Nat)) v)++c.args.mapIdx fun p _=>Z5 (p:Nat) (true,R+(p:Nat))
def Z6 (k:Nat) (R:Int) (b:BlkL):BlkL:=
 match zC k b with
 | some c=>⟨b.phis,b.list.dropLast++kP R c,⟨2,false,0,[1]⟩⟩
 | none=>{ b with fin:={ b.fin with «to»:=b.fin.to.map (·+1) } }
def zm (k:Nat) (f:FunL):FunL:={ f with regs:=f.regs+f.params,blocks:=Qw::f.blocks.map (Z6 k f.regs) }
def kV (k:Nat) (f:FunL):Nat:=(f.blocks.filter (zd k)).length
def VF (k:Nat) (f:FunL):Bool:=decide (0<kV k f∧f.regs+f.params≤100∧f.blocks.length≠40∧(z6 f:Int)+kV k f*(2*f.params - 1)≤300)

theorem zE {k:Nat} {b:BlkL} {c:InsL} (h:zC k b=some c):b.list=b.list.dropLast++[c]∧b.fin.kind=1∧b.fin.onr=true∧c.op=20∧c.fn=(k:Int)∧c.dst=b.fin.onn:=by
 unfold zC at h
 cases e:b.list.getLast? with
 | none=>rw[e]at h;cases h
 | some x=>
  rw[e]at h
  simp only at h
  split at h
  ·next hc=>
   cases h
   refine⟨?_,hc⟩
   obtain⟨hne,hx⟩:=List.getLast?_eq_some_iff.1 e
   rw[hx]
   simp
  cases h
theorem jo {k:Nat} {R:Int} {b:BlkL} (h:zC k b=none):Z6 k R b={ b with fin:={ b.fin with «to»:=b.fin.to.map (·+1) } }:=by
 unfold Z6
 rw[h]
theorem jp {k:Nat} {R:Int} {b:BlkL} {c:InsL} (h:zC k b=some c):Z6 k R b=⟨b.phis,b.list.dropLast++kP R c,⟨2,false,0,[1]⟩⟩:=by
 unfold Z6
 rw[h]
theorem VG (k:Nat) (R:Int) (b:BlkL):(Z6 k R b).phis=b.phis:=by
 unfold Z6
 split<;>rfl
theorem moves_len (R:Int) (c:InsL):(kP R c).length=2*c.args.length:=by
 simp[kP]
 omega
theorem moves_mem {R:Int} {c x:InsL} (h:x∈kP R c):∃p:Nat,p<c.args.length∧((∃v∈c.args,x=Z5 (R+p) v)∨x=Z5 p (true,R+p)):=by
 unfold kP at h
 rcases List.mem_append.1 h with h|h
 ·obtain⟨i,hi,rfl⟩:=List.mem_mapIdx.1 h
  exact⟨i,hi,.inl ⟨_,List.getElem_mem hi,rfl⟩⟩
 obtain⟨i,hi,rfl⟩:=List.mem_mapIdx.1 h
 exact⟨i,hi,.inr rfl⟩
theorem ValOk.more {r r':Int} {a:Bool} {n:Int} (h:ValOk r a n) (hr:r≤r'):ValOk r' a n:=fun e=>by
 have:=h e
 omega
theorem InsC.more {r r':Int} {nf:Nat} {P:Nat→Int} {x:InsL} (h:InsC r nf P x) (hr:r≤r'):InsC r' nf P x:=
 ⟨h.op,h.d0,h.a0,h.b0,h.c0,fun e1 e2=>by have:=h.d1 e1 e2;omega,h.a.more hr,h.b.more hr,fun e=>⟨(h.call e).1,(h.call e).2.1,fun v hv=>((h.call e).2.2 v hv).more hr⟩⟩
theorem V4 {r d:Int} {v:Bool×Int} {nf:Nat} {P:Nat→Int} (hd:0≤d∧d<r) (hv:ValOk r v.1 v.2):InsC r nf P (Z5 d v):=
 ⟨⟨by show(1:Int)≤1;omega,by show(1:Int)≤22;omega⟩,fun e=>absurd (show shD 1=false from e) (by decide),fun e=>absurd (show shA 1=false from e) (by decide),fun _=>⟨rfl,rfl⟩,fun _=>⟨rfl,rfl⟩,fun _ _=>hd,hv,fun e=>absurd (show false=true from e) (by decide),fun e=>absurd (show(1:Int)=20 from e) (by decide)⟩

section
variable {nf : Nat} {P : Nat → Int} {f : FunL} {k : Nat}
theorem FunC.args (h:FunC nf P f) (hP:P k=f.params) {b:BlkL} (hb:b∈f.blocks) {c:InsL} (e:zC k b=some c):(c.args.length:Int)=f.params∧∀v∈c.args,ValOk f.regs v.1 v.2:=by
 obtain⟨i,hi,rfl⟩:=List.mem_iff_getElem.1 hb
 obtain⟨h1,_,_,h2,h3,_⟩:=zE e
 have hc:=insC_iff.1 (h.ins i hi c (by rw[h1];simp))
 obtain⟨_,g2,g3⟩:=hc.call h2
 rw[h3]at g2
 exact⟨g2.trans hP,g3⟩
theorem VH (h:FunC nf P f) (hP:P k=f.params):(z6 (zm k f):Int)=z6 f+kV k f*(2*f.params - 1):=by
 have key:∀l:List BlkL,(∀b∈l,b∈f.blocks)→((((l.map (Z6 k f.regs)).map fun b=>b.phis.length+b.list.length).sum:Nat):Int)=(((l.map fun b=>b.phis.length+b.list.length).sum:Nat):Int)+((l.filter (zd k)).length:Nat)*(2*f.params - 1):=by
  intro l
  induction l with
  | nil=>intro _;simp
  | cons b l ih=>
   intro hl
   have ih:=ih fun x hx=>hl x (.tail _ hx)
   simp only[List.map_cons,List.sum_cons]
   push_cast at ih ⊢
   rw[ih]
   cases e:zC k b with
   | none=>
    have e2:zd k b=false:=by unfold zd;rw[e];rfl
    rw[List.filter_cons_of_neg (by simp[e2]),jo e]
    simp only
    omega
   | some c=>
    have e2:zd k b=true:=by unfold zd;rw[e];rfl
    have h1:=(h.args hP (hl b (.head _)) e).1
    have h2:=congrArg List.length (zE e).1
    rw[List.filter_cons_of_pos e2,jp e]
    simp only[List.length_append,List.length_cons,List.length_nil,moves_len]at h2 ⊢
    push_cast
    have:((l.filter (zd k)).length+1:Int)*(2*f.params - 1)=(l.filter (zd k)).length*(2*f.params - 1)+(2*f.params - 1):=by rw[Int.add_mul,Int.one_mul]
    omega
 have:=key f.blocks fun _ h=>h
 unfold z6 zm kV
 simp only[List.map_cons,List.sum_cons,Qw,List.length_nil]
 push_cast at this ⊢
 rw[this]
 omega
theorem mayR_iff:VF k f=true↔0<kV k f∧f.regs+f.params≤100∧f.blocks.length≠40∧(z6 f:Int)+kV k f*(2*f.params - 1)≤300:=by
 unfold VF
 simp
theorem zT (k:Nat) (f:FunL):(zm k f).blocks.length=f.blocks.length+1:=by simp[zm]
theorem Q6 (k:Nat) (f:FunL) {i:Nat} (h:i<f.blocks.length):(zm k f).blocks[i+1]'(by rw[zT];omega)=Z6 k f.regs f.blocks[i]:=by simp[zm]
theorem FunC.round (h:FunC nf P f) (hP:P k=f.params) (hph:∀b∈f.blocks,b.phis=[]) (hm:VF k f=true):FunC nf P (zm k f):=by
 obtain⟨m1,m2,m3,m4⟩:=mayR_iff.1 hm
 have hl:=zT k f
 have n1:=h.n1
 have n40:=h.n40
 have haL:=h.par
 have hbA:=h.reg
 refine⟨by omega,by omega,haL,⟨by show f.params≤f.regs+f.params;omega,m2⟩,?_,fun b hb=>?_,fun b hb p hp=>?_,fun b hb x hx=>?_⟩
 ·have:=VH h hP
  omega
 ·rw[hl]
  cases b with
  | zero=>exact⟨by show(1:Int)≤2∧(2:Int)≤3;omega,rfl,fun t ht=>by rw[List.mem_singleton.1 ht];omega,by simp[zm,Qw],fun _=>⟨rfl,rfl⟩,fun e=>by cases e⟩
  | succ i=>
   have hi:i<f.blocks.length:=by omega
   rw[Q6 k f hi]
   have hf:=h.fin i hi
   cases e:zC k f.blocks[i] with
   | some c=>
    rw[jp e]
    exact⟨by show(1:Int)≤2∧(2:Int)≤3;omega,rfl,fun t ht=>by rw[List.mem_singleton.1 ht];omega,by simp,fun _=>⟨rfl,rfl⟩,fun e=>by cases e⟩
   | none=>
    rw[jo e]
    refine⟨hf.kind,?_,fun t ht=>?_,?_,hf.jump,hf.on.more (by show f.regs≤f.regs+f.params;omega)⟩
    ·show((f.blocks[i].fin.to.map _).length:Int)=_
     rw[List.length_map]
     exact hf.len
    ·obtain⟨s,hs,rfl⟩:=List.mem_map.1 ht
     have:=hf.to s hs
     push_cast
     omega
    show(f.blocks[i].fin.to.map _).Nodup
    exact List.pairwise_map.2 (hf.two.imp fun hne e=>hne (by omega))
 ·exfalso
  cases b with
  | zero=>cases hp
  | succ i=>
   have hi:i<f.blocks.length:=by omega
   rw[Q6 k f hi,VG,hph _ (List.getElem_mem hi)]at hp
   cases hp
 rw[insC_iff]
 cases b with
 | zero=>cases hx
 | succ i=>
  have hi:i<f.blocks.length:=by omega
  rw[Q6 k f hi]at hx
  have hr:f.regs≤(zm k f).regs:=by show f.regs≤f.regs+f.params;omega
  cases e:zC k f.blocks[i] with
  | none=>
   rw[jo e]at hx
   exact(insC_iff.1 (h.ins i hi x hx)).more hr
  | some c=>
   rw[jp e]at hx
   obtain⟨a1,a2⟩:=h.args hP (List.getElem_mem hi) e
   rcases List.mem_append.1 hx with hx|hx
   ·exact(insC_iff.1 (h.ins i hi x (by rw[(zE e).1];exact List.mem_append_left _ hx))).more hr
   obtain⟨p,hp,hc⟩:=moves_mem hx
   rcases hc with⟨v,hv,rfl⟩|rfl
   ·exact V4 (by show _∧_<f.regs+f.params;omega) ((a2 v hv).more hr)
   exact V4 (by show _∧_<f.regs+f.params;omega) (fun _=>by show _∧_<f.regs+f.params;constructor<;>simp only<;>omega)
end
end Go.Proofs.YtecdphhdmjmmnaaGreatDoor
namespace Go.Proofs.YtecdphhdmjmmnaaGreatDoor

def isV (r:Int) (v:Bool×Int):Bool:=v.1&&v.2 == r
end Go.Proofs.YtecdphhdmjmmnaaGreatDoor
namespace Go.Proofs.YtecdphhdmjmmnaaGreatDoor
open Go.RowKit

theorem FunC.less {nf:Nat} {P:Nat→Int} {f:FunL} (h:FunC nf P f):(doT f).blocks.length≤f.blocks.length∧(qP (jt f)).blocks.length=(jt f).blocks.length:=by
 have h1:=h.order.chains
 have e:=Z4 h.order
 refine⟨?_,e⟩
 have n1:∀g:FunL,FunD g→(jt g).blocks.length≤g.blocks.length:=fun g hg=>by
  unfold jt
  rw[qV]
  exact x9 _ _ hg.toFunS.ordC.once hg.toFunS.ordC.inb
 have a:=n1 _ h1.funD
 have b:=n1 _ h.funD
 show(zZ (jt (qP (jt f)))).blocks.length≤_
 rw[qW]
 omega
/-! ## the blocks stay as they are -/
theorem FunC.calm {nf:Nat} {P:Nat→Int} {f:FunL} (h:FunC nf P f):j8 (doT f).blocks=List.range (doT f).blocks.length∧∀b,b<(doT f).blocks.length→jm (doT f) b=none:=by
 have h1:=h.order.chains
 obtain⟨g,hg⟩:∃g,g=jt (qP (jt f)):=⟨_,rfl⟩
 have e0:doT f=zZ g:=by rw[hg];rfl
 have ho:j8 g.blocks=List.range g.blocks.length:=by
  rw[hg,h1.funD.order]
  unfold jt
  rw[qV]
 rw[e0]
 refine⟨by rw[VE,ho,qW],fun b hb=>?_⟩
 rw[name_may]
 rw[qW]at hb
 rw[hg]at hb ⊢
 refine h1.none_order (h.funD.live.chains h.order) (fun b hb=>?_) hb
 exact h.order.chained (by
  have hl:(qP (jt f)).blocks.length=(jt f).blocks.length:=Z4 h.order
  rw[←hl];exact hb)
theorem ChkOk.zero {u:UniL} (h:ChkOk u):chk u=(0,0):=(h.same rfl rfl fun _ hk=>⟨rfl,rfl,h.funC hk⟩).1

structure CalmF (f:FunL):Prop where
 reach:∀b,b<f.blocks.length→PathT f b
 may:∀b,b<f.blocks.length→jm f b=none
theorem FunC.isCalm {nf:Nat} {P:Nat→Int} {f:FunL} (h:FunC nf P f):CalmF (doT f):=
 ⟨fun b hb=>h.done.funD.toFunS.reach.1 (by rw[h.calm.1];exact List.mem_range.2 hb),h.calm.2⟩
theorem FunC.calm_do {nf:Nat} {P:Nat→Int} {f:FunL} (h:FunC nf P f) (hc:CalmF f):doT f=zZ (jt f):=by
 have hl:LiveT f:=fun x hx _=>hc.reach x hx
 have e1:qP (jt f)=jt f:=Jk fun b hb=>h.none_order hl hc.may hb
 have e2:jt (jt f)=jt f:=by
  have ho:=h.funD.order
  have hk:=h.order
  have hl:(jt f).blocks.length=(j8 f.blocks).length:=by unfold jt;rw[qV]
  show qR (j8 (jt f).blocks) (jt f)=jt f
  rw[ho,←hl]
  exact hk.funD.keep_same fun b hb p hp=>(hk.phi b hb p hp).len
 unfold doT xP
 rw[e1,e2]

theorem Xz {l:List Nat} {a b:Nat} (h:a≠b) (ha:a∈l) (hb:b∈l):1<l.length:=by
 match l,ha,hb with
 | [x],ha,hb=>exact absurd ((List.mem_singleton.1 ha).trans (List.mem_singleton.1 hb).symm) h
 | _::_::_,_,_=>simp
theorem one_of {l:List Nat} {a:Nat} (ha:a∈l) (hl:l.length≤1):l=[a]:=by
 match l,ha,hl with
 | [x],ha,_=>rw[List.mem_singleton.1 ha]
theorem two_of {l:List Nat} (hd:l.Nodup) (h:1<l.length):∃a b,a≠b∧a∈l∧b∈l:=by
 match l,h with
 | x::y::l,_=>exact⟨x,y,fun e=>by subst e;simp at hd,by simp,by simp⟩

section
variable {nf : Nat} {P : Nat → Int} {f : FunL} {k : Nat}
theorem kh {i:Nat} (hi:i<f.blocks.length):tosB (zm k f).blocks (i+1)=if zd k f.blocks[i]=true then[1] else(tosB f.blocks i).map (·+1):=by
 rw[qT (by rw[zT];omega),Q6 k f hi,qT hi]
 cases e:zC k f.blocks[i] with
 | some c=>
  have:zd k f.blocks[i]=true:=by unfold zd;rw[e];rfl
  rw[if_pos this,jp e]
 | none=>
  have:zd k f.blocks[i]=false:=by unfold zd;rw[e];rfl
  rw[this,jo e]
  rfl
theorem kG:tosB (zm k f).blocks 0=[1]:=rfl
theorem XA {i:Nat} (h:FunC nf P f) (hi:i<f.blocks.length) (hg:zd k f.blocks[i]=true):tosB f.blocks i=[]:=by
 rw[qT hi]
 unfold zd at hg
 cases e:zC k f.blocks[i] with
 | none=>rw[e]at hg;cases hg
 | some c=>
  have h1:=(h.fin i hi).len
  have h2:=(zE e).2.1
  exact List.eq_nil_of_length_eq_zero (by omega)
theorem VI (h:FunC nf P f) {b:Nat} (hp:PathT f b):PathT (zm k f) (b+1):=by
 induction hp with
 | zero=>exact .step .zero (by rw[zT];omega) (by rw[kG];simp)
 | step hp ha hm ih=>
  refine .step ih (by rw[zT];omega) ?_
  rw[kh ha]
  split
  ·next hg=>rw[XA h ha hg]at hm;cases hm
  exact List.mem_map.2 ⟨_,hm,by push_cast;rfl⟩
theorem many_pos (h:0<kV k f):∃i,∃hi:i<f.blocks.length,zd k f.blocks[i]=true:=by
 unfold kV at h
 obtain⟨b,hb⟩:=List.exists_mem_of_length_pos h
 obtain⟨h1,h2⟩:=List.mem_filter.1 hb
 obtain⟨i,hi,rfl⟩:=List.mem_iff_getElem.1 h1
 exact⟨i,hi,h2⟩
theorem VJ (h:FunC nf P f) (hg:FunC nf P (zm k f)) (hph:∀b∈f.blocks,b.phis=[]) (hc:CalmF f) (hm:0<kV k f):CalmF (zm k f):=by
 have hd:=h.funD
 have hgd:=hg.funD
 have h1:1<(insN (zm k f) 1).length:=by
  obtain⟨i,hi,hgo⟩:=many_pos hm
  refine Xz (a:=0) (b:=i+1) (by omega) (hgd.mem.2 ⟨by rw[zT];omega,by rw[kG];simp⟩) (hgd.mem.2 ⟨by rw[zT];omega,?_⟩)
  rw[kh hi,if_pos hgo]
  simp
 refine⟨fun b hb=>?_,fun b hb=>?_⟩
 ·rw[zT]at hb
  cases b with
  | zero=>exact .zero
  | succ b=>exact VI h (hc.reach b (by omega))
 rw[zT]at hb
 cases e:jm (zm k f) b with
 | none=>rfl
 | some t=>
  exfalso
  have m:=mayJ hg (by rw[zT];omega) e
  have hone:(insN (zm k f) t).length≤1:=by rw[m.one];simp
  have hto:tosB (zm k f).blocks b=[(t:Int)]:=m.to
  cases b with
  | zero=>
   rw[kG]at hto
   have:t=1:=by simp at hto;omega
   subst this
   omega
  | succ i=>
   have hi:i<f.blocks.length:=by omega
   rw[kh hi]at hto
   split at hto
   ·have:t=1:=by simp at hto;omega
    subst this
    omega
   next hgo=>
   cases e2:tosB f.blocks i with
   | nil=>rw[e2]at hto;cases hto
   | cons s l=>
    rw[e2]at hto
    simp only[List.map_cons,List.cons.injEq,List.map_eq_nil_iff]at hto
    obtain⟨h3,rfl⟩:=hto
    have hs:=hd.toFunS.tosB i hi s (by rw[e2];simp)
    obtain⟨t',rfl⟩:∃t':Nat,s=t':=⟨s.toNat,by omega⟩
    have ht:t=t'+1:=by omega
    subst ht
    have hn:=hc.may i hi
    have key2:1<(insN f t').length→1<(insN (zm k f) (t'+1)).length:=fun hlt=>by
     obtain⟨a,b,hab,ha,hb⟩:=two_of (hd.insD t') hlt
     have key:∀a,a∈insN f t'→a+1∈insN (zm k f) (t'+1):=fun a ha=>by
      obtain⟨a1,a2⟩:=hd.mem.1 ha
      refine hgd.mem.2 ⟨by rw[zT];omega,?_⟩
      rw[kh a1]
      split
      ·next hgo=>rw[XA h a1 hgo]at a2;cases a2
      exact List.mem_map.2 ⟨_,a2,by push_cast;rfl⟩
     exact Xz (a:=a+1) (b:=b+1) (by omega) (key a ha) (key b hb)
    have hle:(insN f t').length≤1:=Classical.byContradiction fun hne=>absurd hone (by have:=key2 (by omega);omega)
    have hmj:MayJ f i t':=⟨hi,by omega,e2,fun e=>m.ne (by omega),hph _ (List.getElem_mem _),one_of (hd.mem.2 ⟨hi,by rw[e2];simp⟩) hle⟩
    rw[(h.may_iff hi).2 hmj]at hn
    cases hn
/-! ## no call to turn is left -/
theorem goes_iff {b:BlkL}:zd k b=true↔∃x,b.list.getLast?=some x∧b.fin.kind=1∧b.fin.onr=true∧x.op=20∧x.fn=(k:Int)∧x.dst=b.fin.onn:=by
 unfold zd zC
 cases b.list.getLast? with
 | none=>simp
 | some x=>
  simp only[Option.some.injEq,exists_eq_left']
  split
  ·next hc=>simpa using hc
  next hc=>simpa using hc
theorem VK (R:Int) (b:BlkL):zd k (Z6 k R b)=false:=by
 cases e:zC k b with
 | some c=>
  rw[jp e]
  refine Bool.eq_false_iff.2 fun h=>?_
  obtain⟨_,_,h2,_⟩:=goes_iff.1 h
  exact absurd (show(2:Int)=1 from h2) (by decide)
 | none=>
  rw[jo e]
  unfold zd
  have:zC k { b with fin:={ b.fin with «to»:=b.fin.to.map (·+1) } }=zC k b:=rfl
  rw[this,e]
  rfl
theorem goes_keep (at_:Nat→Int) (ah:List Nat) (b:BlkL):zd k (K7 at_ ah b)=zd k b:=rfl
theorem goes_name (h:FunC nf P f) {i:Nat} (hi:i<f.blocks.length):zd k (K8 (Xo f).1 f.blocks[i])=zd k f.blocks[i]:=by
 rw[Bool.eq_iff_iff,goes_iff,goes_iff]
 have hl:(K8 (Xo f).1 f.blocks[i]).list.getLast?=(f.blocks[i].list.getLast?).map (vR (Xo f).1):=by
  show(f.blocks[i].list.map _).getLast?=_
  rw[List.getLast?_map]
 rw[hl]
 cases e:f.blocks[i].list.getLast? with
 | none=>simp
 | some x=>
  simp only[Option.map_some,Option.some.injEq,exists_eq_left']
  have hx:x∈f.blocks[i].list:=List.mem_of_getLast? e
  have hon:=(h.fin i hi).on
  show(f.blocks[i].fin.kind=1∧f.blocks[i].fin.onr=true∧x.op=20∧x.fn=(k:Int)∧(if 0≤x.dst then(Xo f).1 x.dst.toNat else x.dst)=(zN (Xo f).1 (f.blocks[i].fin.onr,f.blocks[i].fin.onn)).2)↔_
  refine and_congr_right fun _=>and_congr_right fun h2=>and_congr_right fun _=>and_congr_right fun _=>?_
  have h3:=hon h2
  have m1:f.blocks[i].fin.onn.toNat∈QN f:=vt hi (V0 h2)
  unfold zN
  simp only[h2,if_true]
  by_cases hd:0≤x.dst
  ·rw[if_pos hd]
   have m2:x.dst.toNat∈QN f:=vt hi (V1 hx (List.mem_append_right _ (by unfold jP;rw[if_pos hd];simp)))
   rw[nm_is m1,nm_is m2]
   constructor
   ·intro e
    have:=kD m2 m1 (by unfold nmN at e;omega)
    omega
   intro e;rw[e]
  rw[if_neg hd]
  have:=(Q4 m1).1
  constructor<;>intro e<;>omega
theorem VL (hn:∀b∈f.blocks,zd k b=false):∀b∈(jt f).blocks,zd k b=false:=fun b hb=>by
 unfold jt qR at hb
 obtain⟨i,_,rfl⟩:=List.mem_map.1 hb
 rw[goes_keep]
 unfold atF
 rw[List.getD_eq_getElem?_getD]
 cases e:f.blocks[i]? with
 | none=>rfl
 | some x=>exact hn x (List.mem_of_getElem? e)
theorem goes_gone (h:FunC nf P f) (hg:FunC nf P (zm k f)) (hph:∀b∈f.blocks,b.phis=[]) (hc:CalmF f) (hm:0<kV k f):∀b∈(doT (zm k f)).blocks,zd k b=false:=by
 rw[hg.calm_do (VJ h hg hph hc hm)]
 intro b hb
 obtain⟨i,hi,rfl⟩:=List.mem_iff_getElem.1 hb
 rw[kF,goes_name hg.order]
 refine VL (fun b hb=>?_) _ (List.getElem_mem _)
 unfold zm at hb
 rcases List.mem_cons.1 hb with rfl|hb
 ·rfl
 obtain⟨x,_,rfl⟩:=List.mem_map.1 hb
 exact VK _ _
end

def tailF (pl:FunL→Bool) (k:Nat) (f:FunL):FunL:=if pl f=true∧VF k f=true then zm k f else f
def jq (pl:FunL→Bool) (u:UniL):UniL:={ u with funcs:=u.funcs.mapIdx (tailF pl) }
def V5 (pl:FunL→Bool):Prop:=∀f,pl f=true→∀b∈f.blocks,b.phis=[]

section
variable {pl : FunL → Bool} {u : UniL}
theorem xW (pl:FunL→Bool) (u:UniL):(jq pl u).funcs.length=u.funcs.length:=by simp[jq]
theorem tailU_at {k:Nat} (hk:k<u.funcs.length):(jq pl u).funcs[k]'(by rw[xW];exact hk)=tailF pl k u.funcs[k]:=by simp[jq]
theorem FunC.tailF {nf:Nat} {P:Nat→Int} {f:FunL} {k:Nat} (hpl:V5 pl) (h:FunC nf P f) (hP:P k=f.params):FunC nf P (tailF pl k f):=by
 unfold Go.Proofs.YtecdphhdmjmmnaaGreatDoor.tailF
 split
 ·next hc=>exact h.round hP (hpl f hc.1) hc.2
 exact h
theorem Jl {k:Nat} (hk:k<u.funcs.length):QP u k=u.funcs[k].params:=by
 unfold QP
 rw[List.getD_eq_getElem?_getD,List.getElem?_eq_getElem (by simpa using hk)]
 simp
theorem ChkOk.tail (hpl:V5 pl) (h:ChkOk u):chk (jq pl u)=(0,0)∧ChkOk (jq pl u):=
 h.same rfl (xW _ _) fun k hk=>by
  rw[tailU_at hk]
  refine⟨?_,?_,(h.funC hk).tailF hpl (Jl hk)⟩<;>(unfold Go.Proofs.YtecdphhdmjmmnaaGreatDoor.tailF;split<;>rfl)
end
end Go.Proofs.YtecdphhdmjmmnaaGreatDoor
namespace Go.Proofs.YtecdphhdmjmmnaaGreatDoor
open Go.RowKit Go.Shelf
attribute [local go_sem] Oper.semAt_some

structure BackI (X:Nat) (p:Option Addr) (c:Nat) (xs:List InsL) (qs:Nat→Option Addr) (cs:Nat→Nat) (W:World):Prop where
 box:W.cell? ⟨X,0,none⟩=some (.slice p xs.length c)
 el:∀i (h:i<xs.length),∃b o,p=some ⟨b,o,none⟩∧W.cell? ⟨b,o+i*8,none⟩=some (.int .i64 xs[i].op)∧W.cell? ⟨b,o+i*8+1,none⟩=some (.int .i64 xs[i].dst)∧W.cell? ⟨b,o+i*8+2,none⟩=some (.bool xs[i].ar)∧W.cell? ⟨b,o+i*8+3,none⟩=some (.int .i64 xs[i].an)∧W.cell? ⟨b,o+i*8+4,none⟩=some (.bool xs[i].br)∧W.cell? ⟨b,o+i*8+5,none⟩=some (.int .i64 xs[i].bn)∧W.cell? ⟨b,o+i*8+6,none⟩=some (.int .i64 xs[i].fn)∧W.cell? ⟨b,o+i*8+7,none⟩=some (.slice (qs i) xs[i].args.length (cs i))
section
variable {X c : Nat} {p : Option Addr} {xs : List InsL} {qs : Nat → Option Addr} {cs : Nat → Nat} {W W' : World}
theorem BackI.other (h:BackI X p c xs qs cs W) (hk:∀b o v,W.cell? ⟨b,o,none⟩=some v→(b=X∨∃o,p=some ⟨b,o,none⟩)→W'.cell? ⟨b,o,none⟩=some v):BackI X p c xs qs cs W':=
 ⟨hk _ _ _ h.box (.inl rfl),fun i hi=>by
  obtain⟨b,o,hp,h0,h1,h2,h3,h4,h5,h6,h7⟩:=h.el i hi
  have hb:b=X∨∃o,p=some ⟨b,o,none⟩:=.inr ⟨o,hp⟩
  exact⟨b,o,hp,hk _ _ _ h0 hb,hk _ _ _ h1 hb,hk _ _ _ h2 hb,hk _ _ _ h3 hb,hk _ _ _ h4 hb,hk _ _ _ h5 hb,hk _ _ _ h6 hb,hk _ _ _ h7 hb⟩⟩
theorem BackI.putObj (h:BackI X p c xs qs cs W) {l:Nat} {o:Obj} (o':Obj) (hl:W.heap[l]?=some o) (ho:o.isCells=false):BackI X p c xs qs cs (W.putObj l o'):=
 h.other fun b o v hc _=>by
  have hne:b≠l:=xH hl ho hc
  exact(World.cell?_of_block (a:=⟨b,o,none⟩) (World.putObj_heap_other (by omega))).trans hc
theorem BackI.kept {S:Blks} (h:BackI X p c xs qs cs W) (hk:Kept S W W') (hX:¬ S X) (hp:∀b o,p=some ⟨b,o,none⟩→¬ S b):BackI X p c xs qs cs W':=
 h.other fun b o v hc hor=>(hk.cell (p:=⟨b,o,none⟩) (q8 hc) (by
  rcases hor with rfl|⟨o2,e⟩
  ·exact hX
  exact hp b o2 e)).trans hc
end
def noneI:InsL:=⟨0,0,false,0,false,0,0,[]⟩
def vS (x:InsL) (q:Option Addr) (c:Nat):Array Value:=#[.int .i64 x.op,.int .i64 x.dst,.bool x.ar,.int .i64 x.an,.bool x.br,.int .i64 x.bn,.int .i64 x.fn,.slice q x.args.length c]
def Zx (xs:List InsL) (qs:Nat→Option Addr) (cs:Nat→Nat) (i:Nat):Array Value:=#[.int .i64 ((xs.length - 1 - i:Nat):Int),.agg (vS (xs.getD (xs.length - 1 - i) noneI) (qs (xs.length - 1 - i)) (cs (xs.length - 1 - i)))]

theorem Zy (p:Option Addr) (n c:Nat) (w:World) :
  Calls Tryz.prog 118 #[.slice p n c] w fun e w'=>e = .returned (.func (.func 145) #[] #[.pointer (some ⟨w.heap.size,0,none⟩)])∧w'=w.alloc (.cells #[.slice p n c] 41):=by
 go_enter Tryz.func118,Tryz.ntmps118
 go_wp2
 go_ret
 exact⟨rfl,rfl⟩

theorem backI_at (F:Fence) (n:Nat) (hF:F.fn 145) (hro:F.round=none) (hn:1≤n) (X c:Nat) (p:Option Addr) (xs:List InsL) (qs:Nat→Option Addr) (cs:Nat→Nat) (w:World) (hl:xs.length≤140737488355328) (hsh:BackI X p c xs qs cs w) :
  SeqAt F n Tryz.prog 145 #[.pointer (some ⟨X,0,none⟩)] (Zx xs qs cs) xs.length (fun W W'=>BackI X p c xs qs cs W→BackI X p c xs qs cs W') w:=by
 intro l J Jx W hW _ _ hY h0
 have HS:=q7 (hsh.other (W':=W) fun b o v hc _=>(hW.cell (p:=⟨b,o,none⟩) (q8 hc)).trans hc)
 have HY:=q7 hY
 clear hsh hY hW
 refine callsIn_of_wp Tryz.func145 rfl hF ?_ hro
 simp only[Tryz.ntmps145,List.size_toArray,List.length_cons,List.length_nil,Nat.reduceAdd,Nat.reduceSub,Array.replicate_succ,Array.replicate_zero,List.push_toArray,List.append_toArray,List.nil_append,List.cons_append]
 have cb:=HS.out.box
 gi_wp2
 gi_loopw [3] (fun i wr=>∃m:Nat,m≤xs.length∧i = .int .i64 ((xs.length:Int) - 1 - m)∧J m wr∧BackI X p c xs qs cs wr) (fun i _=>(intOf i+1).toNat)
 case atStart=>exact⟨0,by omega,by simp,h0,HS.out⟩
 case round=>
  clear cb
  obtain⟨m,hm,rfl,hJ,hK⟩:=hrel
  have cb:=hK.box
  have HK:=q7 hK
  clear hK
  by_cases hlt:m<xs.length
  rotate_left
  ·obtain rfl:m=xs.length:=by omega
   gi_wp2
   go_end0
   exact⟨⟨_,rfl⟩,.inl hJ⟩
  have hk:xs.length - 1 - m<xs.length:=by omega
  obtain⟨b,o,rfl,e0,e1,e2,e3,e4,e5,e6,e7⟩:=HK.out.el _ hk
  have hj:(xs.length:Int) - 1 - m=((xs.length - 1 - m:Nat):Int):=by omega
  obtain⟨fn,tmps,assign,body,hy,hR⟩:=HY.out _ wr hlt hJ
  have he:Zx xs qs cs m=#[.int .i64 ((xs.length - 1 - m:Nat):Int),.agg #[.int .i64 (xs[xs.length - 1 - m]).op,.int .i64 (xs[xs.length - 1 - m]).dst,.bool (xs[xs.length - 1 - m]).ar,.int .i64 (xs[xs.length - 1 - m]).an,.bool (xs[xs.length - 1 - m]).br,.int .i64 (xs[xs.length - 1 - m]).bn,.int .i64 (xs[xs.length - 1 - m]).fn,.slice (qs (xs.length - 1 - m)) (xs[xs.length - 1 - m]).args.length (cs (xs.length - 1 - m))]]:=by
   unfold Zx vS
   rw[List.getD_eq_getElem?_getD,List.getElem?_eq_getElem hk]
   rfl
  rw[he]at hy
  rw[hj]
  generalize hkk:xs.length - 1 - m=k at *
  have HKK:=q7 hkk
  have HR:=q7 hR
  clear hR he hj hkk
  gi_wp2
  refine HR.out.mono ?_
  rintro e W3 (⟨rfl,hJ3,hk3⟩|⟨rfl,hJx3⟩)
  ·have HK3:=q7 (hk3 HK.out)
   clear hk3
   gi_wp2
   go_roundw
   case rel=>exact⟨m+1,by omega,by have:=HKK.out;congr 1;omega,hJ3,HK3.out⟩
   case measure=>simp[intOf]
  gi_wp2
  refine bodyPost_ret (results_none rfl _ _ _) rfl ?_
  exact⟨⟨_,rfl⟩,.inr ⟨_,hlt,hJx3⟩⟩
end Go.Proofs.YtecdphhdmjmmnaaGreatDoor
namespace Go.Proofs.YtecdphhdmjmmnaaGreatDoor
open Go.RowKit Go.Shelf

section
variable {P : Program} {md : Region.Mode} {ops : Array Oper} {Q : Exit → Act → World → Prop} {S : World → Prop} {z : Nat}
theorem Zz {i:Nat} {oi:Oper} {v:Value} (hi:ops[i]?=some oi) (hz:ops.size≤z) (hsel:∀(j:Nat) (o:Oper) cs b,ops[j]?=some o→o.op≠.select cs b)
  (hQ:∀c a w,Q (.panic c) (a.put oi.dst v) w→Q (.panic c) a w) :
  ∀(fuel:Nat) (listed:Array Bool) (a:Act) (w:World),
   (∀j oj,ops[j]?=some oj→j≠i→listed.getD j true=false→(∀e∈oj.after,Region.binds md e=true→e.on≠i)→oi.apart ops oj=true)→
   i∈Region.ready md ops listed→YieldsIf P ops S oi v a→S w→
   qL P md ops Q S z fuel (listed.setIfInBounds i true) (a.put oi.dst v) w→qL P md ops Q S z (fuel+1) listed a w:=by
 intro fuel
 induction fuel with
 | zero=>
  intro listed a w _ hr hy hS H
  refine⟨fun h=>(by rw[h]at hr;cases hr),fun j hj=>?_⟩
  by_cases hji:j=i
  ·subst hji;exact hy.wpOp hi hS ⟨fun _=>hS,H⟩
  have:=ready_mono hj hji
  rw[H.1]at this
  cases this
 | succ fuel ih=>
  intro listed a w hfree hr hy hS H
  refine⟨fun h=>(by rw[h]at hr;cases hr),fun j hj=>?_⟩
  by_cases hji:j=i
  ·subst hji;exact hy.wpOp hi hS ⟨fun _=>hS,H⟩
  have h1:=H.2 j (ready_mono hj hji)
  obtain⟨hjun,oj,hoj,hall⟩:=mem_ready.1 hj
  have hnot:∀e∈oj.after,Region.binds md e=true→e.on≠i:=fun e he hb heq=>by
   have h1:=hall e he hb
   have h0:=(mem_ready.1 hr).1
   rw[heq]at h1
   rcases Nat.lt_or_ge i listed.size with h'|h'
   ·simp[h']at h0 h1;rw[h0]at h1;cases h1
   simp[Array.getElem?_eq_none h']at h1
  have hjz:j≠z:=fun e=>by have:=(Array.getElem?_eq_some_iff.1 hoj).1;omega
  have h2:=wpOp_putIf hoj (hfree j oj hoj hji hjun hnot) (fun cs b=>hsel i oi cs b hi) (fun cs b=>hsel j oj cs b hoj) hQ hy h1
  have hfree':∀k ok,ops[k]?=some ok→k≠i→(listed.setIfInBounds j true).getD k true=false→
    (∀e∈ok.after,Region.binds md e=true→e.on≠i)→oi.apart ops ok=true:=fun k ok hk hki hun hno=>by
   refine hfree k ok hk hki ?_ hno
   by_cases hjk:j=k
   ·subst hjk;exact hjun
   rw[getD_set_ne true hjk]at hun;exact hun
  refine wpOp_mono (fun a' w' h3=>⟨fun _=>h3.2.1 hjz,ih (listed.setIfInBounds j true) a' w' hfree' (ready_mono hr (Ne.symm hji)) h3.1 (h3.2.1 hjz) ?_⟩) h2
  rw[Array.setIfInBounds_comm _ _ hji]
  exact h3.2.2
theorem XB {i:Nat} {oi:Oper} {v:Value} {fuel:Nat} {listed:Array Bool} {a:Act} {w:World} (hi:ops[i]?=some oi) (hw:ops.size≤z)
  (hs:Region.noSelect ops=true) (hf:Region.free md ops listed i=true) (hr:(Region.ready md ops listed).contains i=true)
  (hQ:∀c a w,Q (.panic c) (a.put oi.dst v) w→Q (.panic c) a w) (hy:YieldsIf P ops S oi v a) (hS:S w)
  (h:qL P md ops Q S z fuel (listed.setIfInBounds i true) (a.put oi.dst v) w):qL P md ops Q S z (fuel+1) listed a w:=
 Zz hi hw (Region.noSelect_spec hs) hQ fuel listed a w (Region.free_spec hi hf) (by simpa using hr) hy hS h
theorem jS (i d:Nat) (v:Value) {oi:Oper} {fuel:Nat} {listed:Array Bool} {a:Act} {w:World} (hi:ops[i]?=some oi) (hd:oi.dst=some d) (hw:ops.size≤z)
  (hs:Region.noSelect ops=true) (hf:Region.free md ops listed i=true) (hr:(Region.ready md ops listed).contains i=true)
  (hQ:∀c a w,Q (.panic c) (a.put (some d) v) w→Q (.panic c) a w) (hy:YieldsIf P ops S oi v a) (hS:S w)
  (h:qL P md ops Q S z fuel (listed.setIfInBounds i true) (a.put (some d) v) w):qL P md ops Q S z (fuel+1) listed a w:=
 XB hi hw hs hf hr (by rw[hd];exact hQ) hy hS (by rw[hd];exact h)
end
end Go.Proofs.YtecdphhdmjmmnaaGreatDoor
namespace Go.Proofs.YtecdphhdmjmmnaaGreatDoor
open Go.RowKit

def LastR (w:World) (k:Nat) (b:BlkL) (e:Ending):Prop:=∃(x:InsL) (qs:Option Addr) (cs:Nat),e = .returned (.tuple #[.agg (vS x qs cs),.bool (zd k b)])∧∀y,zC k b=some y→x=y∧SliceAt w 2 kR qs y.args∧y.args.length*16≤140737488351232
theorem kH {k:Nat} {b:BlkL} (h:zC k b=none):zd k b=false:=by unfold zd;rw[h];rfl

theorem kI {k:Nat} {b:BlkL} {c:InsL} (h:zC k b=some c):b.list.getLast?=some c:=by
 rw[(zE h).1]
 simp
theorem lastR_no {w0 w w':World} {k:Nat} {b:BlkL} {e:Ending} (h:Hid (zC k b=none)) {x:InsL} {qs:Option Addr} {cs:Nat} (he:e = .returned (.tuple #[.agg (vS x qs cs),.bool false])) (hb:Below w.heap.size w w'):LastR w0 k b e∧Below w.heap.size w w':=
 ⟨⟨x,qs,cs,by rw[kH h.out];exact he,fun y hx=>by rw[h.out]at hx;cases hx⟩,hb⟩

theorem Q7 {w':World} {R:Nat} {A:Array Value} {v0 v1 v2 v3 v4 v5 v6 v7:Value} {ok:Bool} {a:Act} {P:Ending→World→Prop} (hA:A=#[v0,v1,v2,v3,v4,v5,v6,v7]) (h:w'.heap[R]?=some (.cells A 53 (0,0))) (ha:a.tmps[4]?.getD undef = .pointer (some ⟨R,0,none⟩)) (hb:a.tmps[5]?.getD undef = .bool ok) (hd:a.defers=[]) (hP:P (.returned (.tuple #[.agg #[v0,v1,v2,v3,v4,v5,v6,v7],.bool ok])) w'):bodyPost Tryz.prog Tryz.f50 P .ret a w':=by
 subst hA
 have c0:=(blk h).1 0
 have c1:=(blk h).1 1
 have c2:=(blk h).1 2
 have c3:=(blk h).1 3
 have c4:=(blk h).1 4
 have c5:=(blk h).1 5
 have c6:=(blk h).1 6
 have c7:=(blk h).1 7
 simp only[List.getElem?_toArray,List.getElem?_cons_zero,List.getElem?_cons_succ]at c0 c1 c2 c3 c4 c5 c6 c7
 refine bodyPost_ret (v:=.tuple #[.agg #[v0,v1,v2,v3,v4,v5,v6,v7],.bool ok]) ?_ hd hP
 simp[results,Tryz.results50,go_sem,ha,hb,c0,c1,c2,c3,c4,c5,c6,c7]
theorem Qx {w0 w:World} {k:Nat} {b:BlkL} {A:Array Value} {a:Act} {W:World} (h:Hid (zC k b=none)) (hb:Below w.heap.size w W) (hc:W.heap[w.heap.size+1]?=some (.cells #[.int .i64 0,.int .i64 0,.bool false,.int .i64 0,.bool false,.int .i64 0,.int .i64 0,.slice none 0 0] 53 (0,0))) (ha:a={ tmps:=A,defers:=[] }) (h4:A[4]?.getD undef = .pointer (some ⟨w.heap.size+1,0,none⟩)) (h5:A[5]?.getD undef = .bool false):bodyPost Tryz.prog Tryz.f50 (fun e w'=>LastR w0 k b e∧Below w.heap.size w w') .ret a W:=by
 subst ha
 exact Q7 rfl hc h4 h5 rfl (lastR_no (x:=⟨0,0,false,0,false,0,0,[]⟩) (qs:=none) (cs:=0) h rfl hb)

theorem ZA (b:BlkL) (q1 q2 q3:Option Addr) (c1 c2 c3 k:Nat) (w0 w:World) (hb0:Below w0.heap.size w0 w) (hl:b.list.length*80≤140737488351232) (hs:SliceAt w0 8 (InsR w0) q2 b.list) :
  Calls Tryz.prog 50 #[.agg #[.slice q1 b.phis.length c1,.slice q2 b.list.length c2,.int .i64 b.fin.kind,.bool b.fin.onr,.int .i64 b.fin.onn,.slice q3 b.fin.to.length c3],.int .i64 k] w fun e w'=>LastR w0 k b e∧Below w.heap.size w w':=by
 have HSl:=q7 hs
 clear hs
 by_cases h0:b.list.length=0
 ·have hn:zC k b=none:=by unfold zC;rw[List.eq_nil_of_length_eq_zero h0];rfl
  have HN:=q7 hn
  have hz:((b.list.length:Int) == 0)=true:=by rw[h0];rfl
  clear hn
  go_enter Tryz.func50,Tryz.ntmps50
  go_wp2_with fail
  exact Qx HN bZ (qh (by simp)) rfl rfl rfl
 have hz:((b.list.length:Int) == 0)=false:=beq_eq_false_iff_ne.2 (by omega)
 by_cases hk1:b.fin.kind=1
 rotate_left
 ·have hkk:(b.fin.kind != 1)=true:=by simp[hk1]
  have hn:zC k b=none:=by
   cases e:zC k b with
   | none=>rfl
   | some x=>exact absurd (zE e).2.1 hk1
  have HN:=q7 hn
  clear hn
  go_enter Tryz.func50,Tryz.ntmps50
  go_wp2_with fail
  exact Qx HN bZ (qh (by simp)) rfl rfl rfl
 have hkk:(b.fin.kind != 1)=false:=by simp[hk1]
 cases hon:b.fin.onr
 ·have hn:zC k b=none:=by
   cases e:zC k b with
   | none=>rfl
   | some x=>have:=(zE e).2.2.1;rw[hon]at this;cases this
  have HN:=q7 hn
  clear hn
  go_enter Tryz.func50,Tryz.ntmps50
  go_wp2_with fail
  exact Qx HN bZ (qh (by simp)) rfl rfl rfl
 have hj:b.list.length - 1<b.list.length:=by omega
 obtain⟨lb,lo,qs,cs,hlp,i0,i1,i2,i3,i4,i5,i6,i7,_,_,_,_,_,hla,hss⟩:=QS HSl.out (Below.refl _ _) hj
 subst hlp
 have i0:=(hb0.cell (q8 i0)).trans i0
 have i1:=(hb0.cell (q8 i1)).trans i1
 have i2:=(hb0.cell (q8 i2)).trans i2
 have i3:=(hb0.cell (q8 i3)).trans i3
 have i4:=(hb0.cell (q8 i4)).trans i4
 have i5:=(hb0.cell (q8 i5)).trans i5
 have i6:=(hb0.cell (q8 i6)).trans i6
 have i7:=(hb0.cell (q8 i7)).trans i7
 have hgl:b.list.getLast?=some b.list[b.list.length - 1]:=by rw[List.getLast?_eq_getElem?,List.getElem?_eq_getElem hj]
 have hcast:(b.list.length:Int) - 1=((b.list.length - 1:Nat):Int):=by omega
 have hwr:IntKind.i64.wrap ((b.list.length:Int) - 1)=((b.list.length - 1:Nat):Int):=by rw[IntKind.wrap_i64];omega
 obtain⟨x,hx⟩:∃x,x=b.list[b.list.length - 1]:=⟨_,rfl⟩
 rw[←hx]at i0 i1 i2 i3 i4 i5 i6 i7 hla hss hgl
 have lz:=q8 i0
 have HG:=q7 hgl
 have HSs:=q7 (And.intro hss hla)
 have HK:=q7 (And.intro hk1 hon)
 obtain⟨j,hjj⟩:∃j,j=b.list.length - 1:=⟨_,rfl⟩
 rw[←hjj]at hwr i0 i1 i2 i3 i4 i5 i6 i7 hj
 have j0:(0:Int)≤(j:Int):=by omega
 have j1:(j:Int)<b.list.length:=by omega
 clear hgl hss hla hx hk1 hcast hjj
 go_enter Tryz.func50,Tryz.ntmps50
 go_wp2_with fail
 obtain⟨W1,hW1⟩:∃W1,W1=((w.alloc (.cells #[.slice q1 b.phis.length c1,.slice (some ⟨lb,lo,none⟩) b.list.length c2,.int .i64 b.fin.kind,.bool true,.int .i64 b.fin.onn,.slice q3 b.fin.to.length c3] 48)).alloc (.cells #[.int .i64 0,.int .i64 0,.bool false,.int .i64 0,.bool false,.int .i64 0,.int .i64 0,.slice none 0 0] 53)).alloc (.cells #[.int .i64 x.op,.int .i64 x.dst,.bool x.ar,.int .i64 x.an,.bool x.br,.int .i64 x.bn,.int .i64 x.fn,.slice qs x.args.length cs] 53):=⟨_,rfl⟩
 rw[←hW1]
 have hb1:Below w.heap.size w W1:=by rw[hW1];exact bZ
 have hz1:W1.heap.size=w.heap.size+1+1+1:=by rw[hW1];simp
 have hB1:W1.heap[w.heap.size]?=some (.cells #[.slice q1 b.phis.length c1,.slice (some ⟨lb,lo,none⟩) b.list.length c2,.int .i64 b.fin.kind,.bool true,.int .i64 b.fin.onn,.slice q3 b.fin.to.length c3] 48 (0,0)):=by rw[hW1];exact qj (qj (qh rfl))
 have hR1:W1.heap[w.heap.size+1]?=some (.cells #[.int .i64 0,.int .i64 0,.bool false,.int .i64 0,.bool false,.int .i64 0,.int .i64 0,.slice none 0 0] 53 (0,0)):=by rw[hW1];exact qj (qh (by simp))
 have hI1:W1.heap[w.heap.size+1+1]?=some (.cells #[.int .i64 x.op,.int .i64 x.dst,.bool x.ar,.int .i64 x.an,.bool x.br,.int .i64 x.bn,.int .i64 x.fn,.slice qs x.args.length cs] 53 (0,0)):=by rw[hW1];exact qh (by simp)
 have o4:W1.cell? ⟨w.heap.size,4,none⟩=some (.int .i64 b.fin.onn):=(blk hB1).1 4
 have ii:=(blk hI1).1
 have ii0:=ii 0
 have ii1:=ii 1
 have ii2:=ii 2
 have ii3:=ii 3
 have ii4:=ii 4
 have ii5:=ii 5
 have ii6:=ii 6
 have ii7:=ii 7
 have rr:=(blk hR1).1
 have rr0:=rr 0
 have rr1:=rr 1
 have rr2:=rr 2
 have rr3:=rr 3
 have rr4:=rr 4
 have rr5:=rr 5
 have rr6:=rr 6
 have rr7:=rr 7
 have rf:=(blk hR1).2
 simp only[List.getElem?_toArray,List.getElem?_cons_zero,List.getElem?_cons_succ]at ii0 ii1 ii2 ii3 ii4 ii5 ii6 ii7 rr0 rr1 rr2 rr3 rr4 rr5 rr6 rr7
 have lz1:=q9 hB1
 have lz2:=q9 hR1
 have lz3:=q9 hI1
 have HB1:=q7 hb1
 have HR1:=q7 hR1
 have hst:∃WF,WF=((((((((W1.setCell ⟨w.heap.size+1,0,none⟩ (.int .i64 x.op)).setCell ⟨w.heap.size+1,1,none⟩ (.int .i64 x.dst)).setCell ⟨w.heap.size+1,2,none⟩ (.bool x.ar)).setCell ⟨w.heap.size+1,3,none⟩ (.int .i64 x.an)).setCell ⟨w.heap.size+1,4,none⟩ (.bool x.br)).setCell ⟨w.heap.size+1,5,none⟩ (.int .i64 x.bn)).setCell ⟨w.heap.size+1,6,none⟩ (.int .i64 x.fn)).setCell ⟨w.heap.size+1,7,none⟩ (.slice qs x.args.length cs)).drew∧WF.heap[w.heap.size+1]?=some (.cells (vS x qs cs) 53 (0,0))∧Below w.heap.size w WF:=by
  refine⟨_,rfl,heap_drew ?_,Below.drew ?_⟩
  ·rw[qd (qd (qd (qd (qd (qd (qd (qd hR1 0 _) 1 _) 2 _) 3 _) 4 _) 5 _) 6 _) 7 _]
   rfl
  have hp:∀o,w.heap.size≤(Addr.mk (w.heap.size+1) o none).block:=fun o=>by show w.heap.size≤w.heap.size+1;omega
  exact(((((((hb1.setCell (hp 0) _).setCell (hp 1) _).setCell (hp 2) _).setCell (hp 3) _).setCell (hp 4) _).setCell (hp 5) _).setCell (hp 6) _).setCell (hp 7) _
 have HSt:=q7 hst
 clear hW1 hb1 hB1 hR1 hI1 ii rr hst i0 i1 i2 i3 i4 i5 i6 i7
 by_cases h20:x.op=20
 rotate_left
 ·have e20:(x.op == 20)=false:=by simp[h20]
  have hn:zC k b=none:=by
   cases e:zC k b with
   | none=>rfl
   | some y=>
    exfalso
    have h1:=kI e
    rw[HG.out]at h1
    cases h1
    exact h20 (zE e).2.2.2.1
  have HN:=q7 hn
  clear h20 hn
  go_region
  all_goals
   go_wp2
   obtain⟨WF,hWF,hF⟩:=HSt.out
   rw[←hWF]
   refine Q7 (A:=vS x qs cs) (R:=w.heap.size+1) (ok:=false) rfl hF.1 rfl rfl rfl ⟨⟨x,qs,cs,by rw[kH HN.out];rfl,fun y hy=>?_⟩,hF.2⟩
   rw[HN.out]at hy;cases hy
 have e20:(x.op == 20)=true:=by simp[h20]
 by_cases hfn:x.fn=(k:Int)
 ·have efn:(x.fn == (k:Int))=true:=by simp[hfn]
  obtain⟨ed,hed⟩:∃ed,ed=(x.dst == b.fin.onn):=⟨_,rfl⟩
  have edd:(x.dst == b.fin.onn)=ed:=hed.symm
  have hgo:zd k b=ed:=by
   rw[hed,Bool.eq_iff_iff,goes_iff,beq_iff_eq]
   constructor
   ·rintro⟨y,h1,_,_,_,_,h6⟩
    rw[HG.out]at h1
    cases h1
    exact h6
   intro h6
   exact⟨x,HG.out,HK.out.1,HK.out.2,h20,hfn,h6⟩
  have hls:∀y,zC k b=some y→x=y∧SliceAt w0 2 kR qs y.args∧y.args.length*16≤140737488351232:=fun y hy=>by
   have h1:=kI hy
   rw[HG.out]at h1
   cases h1
   exact⟨rfl,HSs.out.1,HSs.out.2⟩
  have HGo:=q7 hgo
  have HLs:=q7 hls
  clear h20 hfn hed hgo hls
  go_region
  all_goals
   go_wp2
   obtain⟨WF,hWF,hF⟩:=HSt.out
   rw[←hWF]
   refine Q7 (A:=vS x qs cs) (R:=w.heap.size+1) (ok:=ed) rfl hF.1 rfl rfl rfl ⟨⟨x,qs,cs,by rw[HGo.out];rfl,fun y hy=>?_⟩,hF.2⟩
   exact HLs.out y hy
 have efn:(x.fn == (k:Int))=false:=by simp[hfn]
 have hn:zC k b=none:=by
  cases e:zC k b with
  | none=>rfl
  | some y=>
   exfalso
   have h1:=kI e
   rw[HG.out]at h1
   cases h1
   exact hfn (zE e).2.2.2.2.1
 have HN:=q7 hn
 clear h20 hfn hn
 go_region
 all_goals
  go_wp2
  obtain⟨WF,hWF,hF⟩:=HSt.out
  rw[←hWF]
  refine Q7 (A:=vS x qs cs) (R:=w.heap.size+1) (ok:=false) rfl hF.1 rfl rfl rfl ⟨⟨x,qs,cs,by rw[kH HN.out];rfl,fun y hy=>?_⟩,hF.2⟩
  rw[HN.out]at hy;cases hy

theorem many_any (f:FunL) (bp:Option Addr) (bc:Nat) (w:World) (h40:f.blocks.length≤40) (hb:SliceAt w 6 (BlkR w) bp f.blocks) :
  Calls Tryz.prog 51 #[.agg #[.string f.name,.int .i64 f.params,.int .i64 f.regs,.slice bp f.blocks.length bc]] w fun e w'=>e = .returned (.int .i64 (z6 f))∧Below w.heap.size w w':=by
 have HB:=q7 hb
 clear hb
 go_enter Tryz.func51,Tryz.ntmps51
 go_wp2
 go_loopw [3,9] (fun m i wr=>∃(k:Nat) (x:Int),k≤f.blocks.length∧i = .int .i64 k∧m = .int .i64 x∧(x=j9 f k∧j9 f k≤k*10000000000000)∧Below (w.heap.size+1) (w.alloc (.cells #[.string f.name,.int .i64 f.params,.int .i64 f.regs,.slice bp f.blocks.length bc] 37)) wr) (fun _ i _=>f.blocks.length - (intOf i).toNat)
 case atStart=>exact⟨0,0,by omega,rfl,rfl,by simp[j9],Below.refl _ _⟩
 case round=>
  obtain⟨k,x,hk,rfl,rfl,hV,hb⟩:=hrel
  have HV:=q7 hV
  have HBw:=q7 hb
  have HBx:Hid (Below w.heap.size w wr):=((Below.refl _ _).alloc (Nat.le_refl _) _).trans (hb.mono (by omega))
  have hz:w.heap.size<wr.heap.size:=by have:=hb.size;simp at this;omega
  obtain⟨hcc,hcf⟩:=blk (qg hb (by omega) (qm w _))
  clear hV hb
  by_cases hlt:k<f.blocks.length
  ·obtain⟨b2,o2,q1,c1,q2,c2,q3,c3,hp,e0,e1,e2,e3,e4,e5,_,_,hl1,hl2,_,_,_,_⟩:=zp HB.out HBx.out hlt
   subst hp
   go_wp2
   refine⟨⟨k+1,_,by omega,by go_num,rfl,?_,?_⟩,by simp[intOf];omega⟩
   ·obtain⟨h1,h2⟩:=HV.out
    rw[vP f k hlt]
    refine⟨?_,by omega⟩
    rw[IntWalk.wrap64_in _ ⟨by omega,by omega⟩,h1]
    omega
   exact HBw.out.alloc (by omega) _
  have HM:Hid (x=z6 f):=by
   show _=_
   have:=HV.out.1
   rw[show k=f.blocks.length by omega,kx]at this
   exact this
  go_wp2
  go_ret
  refine⟨?_,HBx.out⟩
  rw[HM.out]
  rfl

end Go.Proofs.YtecdphhdmjmmnaaGreatDoor
